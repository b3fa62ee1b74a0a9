/- The canonical machine: what it does. -/
import Derived.Test.YtbcaceeiehjplacGreatDoorWmA
namespace Go.Wm
set_option linter.unusedSimpArgs false
set_option linter.unusedVariables false

/-! ### reading -/
def ld (H : Gt) (p : PA) : Option VV :=
  match H p.blk with
  | some (.row _ _ es) => match es[p.idx]? with | some e => e[p.off]? | none => none
  | _ => none
def lds (H : Gt) (p : PA) (n : Nat) : Option (List VV) :=
  match H p.blk with
  | some (.row _ _ es) => match es[p.idx]? with | some e => if p.off + n ≤ e.length then some ((e.drop p.off).take n) else none | none => none
  | _ => none
def padd (esz : Nat) (p : PA) (k s : Nat) : PA := if p.off = 0 ∧ esz = s then ⟨p.blk, p.idx + k, 0⟩ else ⟨p.blk, p.idx, p.off + k * s⟩
def eszOf (H : Gt) (b : Nat) : Option Nat :=
  match H b with
  | some (.row _ _ (e :: _)) => some e.length
  | _ => none
def ixp (H : Gt) (p : PA) (k s : Nat) : Option PA :=
  match eszOf H p.blk with
  | some z => some (padd z p k s)
  | none => none
def partOf (cs : List VV) (off n : Nat) (ag : Bool) : Option VV :=
  if ag then (if off + n ≤ cs.length then some (.agg ((cs.drop off).take n)) else none) else cs[off]?

/-- numbers, quickly -/
def modK : IntKind → Nat
  | .i8 | .u8 => 256
  | .i16 | .u16 => 65536
  | .i32 | .u32 => 4294967296
  | .i64 | .u64 => 18446744073709551616
def halfK : IntKind → Nat
  | .i8 => 128
  | .i16 => 32768
  | .i32 => 2147483648
  | .i64 => 9223372036854775808
  | .u8 => 256
  | .u16 => 65536
  | .u32 => 4294967296
  | .u64 => 18446744073709551616
def wrapK (k : IntKind) : Int → Int
  | .ofNat m => bif Nat.blt m (halfK k) then .ofNat m else (fun r => bif Nat.blt r (halfK k) then .ofNat r else .negSucc (Nat.pred (Nat.sub (modK k) r))) (Nat.mod m (modK k))
  | .negSucc m => bif Nat.blt m (Nat.sub (modK k) (halfK k)) then .negSucc m else k.wrap (.negSucc m)
def iadd : Int → Int → Int
  | .ofNat m, .ofNat n => .ofNat (Nat.add m n)
  | .ofNat m, .negSucc n => bif Nat.blt n m then .ofNat (Nat.sub m (Nat.succ n)) else .negSucc (Nat.sub n m)
  | .negSucc m, .ofNat n => bif Nat.blt m n then .ofNat (Nat.sub n (Nat.succ m)) else .negSucc (Nat.sub m n)
  | .negSucc m, .negSucc n => .negSucc (Nat.succ (Nat.add m n))
def ineg : Int → Int
  | .ofNat m => bif Nat.beq m 0 then .ofNat 0 else .negSucc (Nat.pred m)
  | .negSucc m => .ofNat (Nat.succ m)
def ilt : Int → Int → Bool
  | .ofNat m, .ofNat n => Nat.blt m n
  | .ofNat _, .negSucc _ => false
  | .negSucc _, .ofNat _ => true
  | .negSucc m, .negSucc n => Nat.blt n m
def ieq : Int → Int → Bool
  | .ofNat m, .ofNat n => Nat.beq m n
  | .negSucc m, .negSucc n => Nat.beq m n
  | _, _ => false
def iarith (op : BinOp) (k : IntKind) (x y : Int) : Option VV :=
  match op with
  | .add => some (.int k (wrapK k (iadd x y)))
  | .sub => some (.int k (wrapK k (iadd x (ineg y))))
  | .mul => some (.int k (wrapK k (x * y)))
  | .eql => some (.bool (ieq x y))
  | .neq => some (.bool (!(ieq x y)))
  | .lss => some (.bool (ilt x y))
  | .leq => some (.bool (!(ilt y x)))
  | .gtr => some (.bool (ilt y x))
  | .geq => some (.bool (!(ilt x y)))
  | .quo => if y = 0 then none else some (.int k (wrapK k (x.tdiv y)))
  | .rem => if y = 0 then none else some (.int k (x.tmod y))
  | .and => some (.int k (wrapK k ((BitVec.ofInt k.bits x &&& BitVec.ofInt k.bits y).toNat : Nat)))
  | .or => some (.int k (wrapK k ((BitVec.ofInt k.bits x ||| BitVec.ofInt k.bits y).toNat : Nat)))
  | .xor => some (.int k (wrapK k ((BitVec.ofInt k.bits x ^^^ BitVec.ofInt k.bits y).toNat : Nat)))
  | .andNot => some (.int k (wrapK k ((BitVec.ofInt k.bits x &&& ~~~(BitVec.ofInt k.bits y)).toNat : Nat)))
  | _ => none
def inRng : Int → Nat → Bool
  | .ofNat n, m => Nat.blt n m
  | _, _ => false
def bin (op : BinOp) (x y : VV) : Option VV :=
  match x, y with
  | .int k a, .int k' b => if k = k' then iarith op k a b else none
  | _, _ => none
def strOp (op : BinOp) (a b : List UInt8) : Option VV :=
  match op with
  | .add => if a.length + b.length ≤ 9223372036854775807 then some (.str (a ++ b)) else none
  | .eql => some (.bool (a == b))
  | .neq => some (.bool (!(a == b)))
  | .lss => some (.bool (Op.bytesLess a b))
  | .leq => some (.bool (Op.bytesLess a b || a == b))
  | .gtr => some (.bool !(Op.bytesLess a b || a == b))
  | .geq => some (.bool !(Op.bytesLess a b))
  | _ => none

def aeqK : List Nat → List VV → List VV → Option Bool
  | [], [], [] => some true
  | 0 :: ks, .int k x :: l, .int k' y :: m => if k = k' then (match aeqK ks l m with | some b => some ((x == y) && b) | none => none) else none
  | 1 :: ks, .bool x :: l, .bool y :: m => match aeqK ks l m with | some b => some ((x == y) && b) | none => none
  | 2 :: ks, .str x :: l, .str y :: m => match aeqK ks l m with | some b => some ((x == y) && b) | none => none
  | _, _, _ => none
def KK.is : KK → VV → Bool
  | .int k, .int k' _ => decide (k' = k)
  | .str, .str _ => true
  | .bool, .bool _ => true
  | .agg ks, .agg cs => (aeqK ks cs cs).isSome
  | _, _ => false
def KK.same : VV → VV → Bool
  | .int _ a, .int _ b => ieq a b
  | .str a, .str b => a == b
  | .bool a, .bool b => a == b
  | _, _ => false
/-- are the two one key? -/
def KK.cmp : KK → VV → VV → Option Bool
  | .agg ks, .agg cs, .agg ds => aeqK ks cs ds
  | .agg _, _, _ => none
  | kk, k, e => bif kk.is e then some (KK.same k e) else none
/-- where a key stands -/
def findV (kk : KK) (k : VV) : List (VV × VV) → Nat → Option (Option (Nat × VV))
  | [], _ => some none
  | e :: es, i => match kk.cmp k e.1 with
    | some true => some (some (i, e.2))
    | some false => findV kk k es (i + 1)
    | none => none
def mapOf (H : Gt) : VV → Option (List (VV × VV))
  | .map none => some []
  | .map (some b) => match H b with | some (.obj (.map es)) => some es | _ => none
  | _ => none

def upd (e : List VV) (off : Nat) : List VV → List VV
  | [] => e
  | c :: cs => upd (e.set off c) (off + 1) cs
def fillVV (E : Fr) (cs : List VV) : List (Nat × Nat × Od) → Option (List VV)
  | [] => some cs
  | (off, n, x) :: r => match x.ev E with
    | some v => if v.cells.length = n ∧ v.defd = true ∧ off + n ≤ cs.length then fillVV E (upd cs off v.cells) r else none
    | none => none
def slcV (H : Gt) (esz : Nat) (q : Option PA) (len cap : Nat) (l h m : Int) (three : Bool) : Option VV :=
  if 0 ≤ l ∧ l ≤ h ∧ h ≤ m ∧ m ≤ cap then
    match q with
    | none => some (.sl none 0 0)
    | some p => if cap = 0 then some (.sl (some p) 0 0) else
      match H p.blk with
      | some (.row _ md (e :: _)) => if md = .loose ∧ ¬ (p.off = 0 ∧ e.length = esz) then none else
          some (.sl (some (if l = 0 then p else padd e.length p l.toNat esz)) (h - l).toNat (m - l).toNat)
      | _ => none
  else none
/-- held against nil, or one pointer against itself -/
def roB : Mode → Bool
  | .ro => true
  | _ => false
def neqV (H : Gt) : Nat → VV → VV → Option Bool
  | 0, .ptr none, .ptr q => some q.isNone
  | 0, .ptr (some _), .ptr none => some false
  | 0, .ptr (some p), .ptr (some q) => if p.blk = q.blk ∧ p.idx = q.idx ∧ p.off = q.off then some true else if p.blk = q.blk then none else
    (match H p.blk, H q.blk with | some (.row _ m _), some (.row _ n _) => if roB m = false ∧ roB n = false then some false else none | _, _ => none)
  | 1, .sl none _ _, .sl q _ _ => some q.isNone
  | 1, .sl (some _) _ _, .sl none _ _ => some false
  | 2, .map none, .map q => some q.isNone
  | 2, .map (some _), .map none => some false
  | 3, .nilI, .nilI => some true
  | 4, .nilFn, .nilFn => some true
  | 4, .nilFn, .fn _ _ => some false
  | 4, .fn _ _, .nilFn => some false
  | _, _, _ => none
def bytesOf : List (List VV) → Option (List UInt8)
  | [] => some []
  | [.int .u8 n] :: r => match bytesOf r with | some l => some (UInt8.ofNat n.toNat :: l) | none => none
  | _ => none
/-- the elements that a slice or a text has -/
def srcEls (H : Gt) (z : Nat) : VV → Option (List (List VV))
  | .sl none 0 _ => some []
  | .sl (some p) len _ => if len = 0 then some [] else
      match H p.blk with
      | some (.row _ _ (e :: es)) => if p.off = 0 ∧ e.length = z ∧ p.idx + len ≤ es.length + 1 then some (((e :: es).drop p.idx).take len) else none
      | _ => none
  | .str s => if z = 1 then some (s.map fun b => [.int .u8 b.toNat]) else none
  | _ => none
def idxOf8 (c : UInt8) : List UInt8 → Nat → Int
  | [], _ => -1
  | b :: r, i => if b = c then (i : Int) else idxOf8 c r (i + 1)

/-- one that only reads -/
def VOp.ev (E : Fr) (H : Gt) : VOp → Option VV
  | .mv x => x.ev E
  | .pick c a b => match c.ev E with | some (.bool b') => if b' then a.ev E else b.ev E | _ => none
  | .load n ag x => match x.ev E with | some (.ptr (some p)) => if ag then (match lds H p n with | some l => some (.agg l) | none => none) else ld H p | _ => none
  | .nilck x => match x.ev E with | some (.ptr (some p)) => some (.ptr (some p)) | some (.fn f c) => some (.fn f c) | some (.yield b) => some (.yield b) | some (.ifc t v) => some (.ifc t v) | _ => none
  | .bin op x y => match x.ev E, y.ev E with | some u, some v => Wm.bin op u v | _, _ => none
  | .sh left x y => match x.ev E, y.ev E with
    | some (.int k a), some (.int _ b) => if 0 ≤ b then some (.int k (if left then wrapK k (a * ((2 ^ (min b.toNat k.bits) : Nat) : Int)) else a.fdiv ((2 ^ (min b.toNat k.bits) : Nat) : Int))) else none
    | _, _ => none
  | .beq ng x y => match x.ev E, y.ev E with | some (.bool b), some (.bool c) => some (.bool (if ng then b != c else b == c)) | _, _ => none
  | .not x => match x.ev E with | some (.bool b) => some (.bool !b) | _ => none
  | .conv k x => match x.ev E with | some (.int _ n) => some (.int k (wrapK k n)) | _ => none
  | .mkfn f caps => match Od.evs E caps with | some l => some (.fn f l) | none => none
  | .faddr off x => match x.ev E with | some (.ptr (some p)) => some (.ptr (some ⟨p.blk, p.idx, p.off + off⟩)) | _ => none
  | .fld off n ag x => match x.ev E with | some (.agg cs) => partOf cs off n ag | _ => none
  | .ixa esz x i => match x.ev E, i.ev E with
    | some (.sl (some p) m _), some (.int _ k) => if inRng k m = true then (match ixp H p k.toNat esz with | some q => some (.ptr (some q)) | none => none) else none
    | _, _ => none
  | .ixar m esz x i => match x.ev E, i.ev E with
    | some (.ptr (some p)), some (.int _ k) => if inRng k m = true then (match ixp H p k.toNat esz with | some q => some (.ptr (some q)) | none => none) else none
    | _, _ => none
  | .lens x => match x.ev E with | some (.sl _ m _) => some (.int .i64 m) | _ => none
  | .lent x => match x.ev E with | some (.str s) => some (.int .i64 s.length) | _ => none
  | .lenm x => match x.ev E with | some u => (match mapOf H u with | some es => some (.int .i64 es.length) | none => none) | _ => none
  | .min2 x y => match x.ev E, y.ev E with | some (.int k a), some (.int _ b) => some (.int k (if b < a then b else a)) | _, _ => none
  | .max2 x y => match x.ev E, y.ev E with | some (.int k a), some (.int _ b) => some (.int k (if b > a then b else a)) | _, _ => none
  | .ext i x => match x.ev E with | some (.tup vs) => vs[i]? | _ => none
  | .build zs ps => match fillVV E zs ps with | some cs => some (.agg cs) | none => none
  | .slc esz x lo hi mx => match x.ev E with
    | some (.sl q m c) => match Od.oev E 0 lo, Od.oev E m hi, Od.oev E c mx with
      | some l, some h, some k => slcV H esz q m c l h k mx.isSome
      | _, _, _ => none
    | _ => none
  | .slstr x lo hi => match x.ev E with
    | some (.str s) => match Od.oev E 0 lo, Od.oev E s.length hi with
      | some l, some h => if 0 ≤ l ∧ l ≤ h ∧ h ≤ s.length then some (.str ((s.take h.toNat).drop l.toNat)) else none
      | _, _ => none
    | _ => none
  | .ixs x i => match x.ev E, i.ev E with
    | some (.str s), some (.int _ k) => if 0 ≤ k then (match s[k.toNat]? with | some b => some (.int .u8 b.toNat) | none => none) else none
    | _, _ => none
  | .lkp kk z ok x k => match x.ev E, k.ev E with
    | some u, some v => match mapOf H u with
      | some es => if kk.is v = true then (match findV kk v es 0 with
          | some (some (_, y)) => some (if ok then .tup [y, .bool true] else y)
          | some none => some (if ok then .tup [z, .bool false] else z)
          | none => none) else none
      | none => none
    | _, _ => none
  | .ent x => match x.ev E with
    | some (.ptr (some p)) => match H p.blk with
      | some (.obj (.iter m n seen)) => match seen.getLast?, H m with
        | some k, some (.obj (.map es)) => if es.length = n ∧ p.idx = 0 ∧ p.off = 0 then (match es[k]? with | some e => some (.tup [e.1, e.2]) | none => none) else none
        | _, _ => none
      | _ => none
    | _ => none
  | .aeq ng ks x y => match x.ev E, y.ev E with
    | some (.agg cs), some (.agg ds) => match aeqK ks cs ds with | some b => some (.bool (if ng then !b else b)) | none => none
    | _, _ => none
  | .neq kd ng x y => match x.ev E, y.ev E with
    | some u, some v => match neqV H kd u v with | some b => some (.bool (if ng then !b else b)) | none => none
    | _, _ => none
  | .seq op x y => match x.ev E, y.ev E with
    | some (.str a), some (.str b) => strOp op a b
    | _, _ => none
  | .neg x => match x.ev E with | some (.int k n) => some (.int k (wrapK k (ineg n))) | _ => none
  | .chr x => match x.ev E with | some (.int _ n) => if 0 ≤ n ∧ n < 128 then some (.str [UInt8.ofNat n.toNat]) else some (.str (Utf8.encode n).data.toList) | _ => none
  | .bstr x => match x.ev E with
    | some (.sl q m c) => match srcEls H 1 (.sl q m c) with
      | some l => match bytesOf l with | some s => some (.str s) | none => none
      | none => none
    | _ => none
  | .ixb x y => match x.ev E, y.ev E with
    | some (.str s), some (.int .u8 c) => some (.int .i64 (idxOf8 (UInt8.ofNat c.toNat) s 0))
    | _, _ => none
  | .mki t x => match x.ev E with | some v => some (.ifc t v) | none => none
  | .capm x => match x.ev E with
    | some (.sl none _ _) => some (.int .i64 0)
    | some (.sl (some p) _ c) => match H p.blk with
      | some (.row _ .ro _) | some (.row _ .own _) => some (.int .i64 c)
      | _ => none
    | _ => none
  | .s2a n x => match x.ev E with | some (.sl (some p) m _) => if 0 < n ∧ n ≤ m then some (.ptr (some p)) else none | _ => none
  | .lda n x => match x.ev E with
    | some (.ptr (some p)) => match lds H p n with
      | some l => some (.agg l)
      | none => match H p.blk with
        | some (.obj (.bytes s)) => if p.idx = 0 ∧ p.off = 0 ∧ n ≤ s.length then some (.agg ((s.take n).map fun b => .int .u8 b.toNat)) else none
        | _ => none
    | _ => none


/-! ### writing -/
abbrev Up := List (Nat × Blk)
def stc (H : Gt) (p : PA) (cs : List VV) : Option Up :=
  match H p.blk with
  | some (.row t md es) => if md = .ro then none else
      match es[p.idx]? with
      | some e => if p.off + cs.length ≤ e.length ∧ okCells cs = true then some [(p.blk, .row t md (es.set p.idx (upd e p.off cs)))] else none
      | none => none
  | _ => none
def updRows (es : List (List VV)) (k : Nat) : List (List VV) → List (List VV)
  | [] => es
  | e :: r => updRows (es.set k e) (k + 1) r
def fillRows (E : Fr) (z : Nat) (es : List (List VV)) : List (Nat × Od) → Option (List (List VV))
  | [] => some es
  | (i, x) :: r => match x.ev E with
    | some v => if v.defd = true ∧ v.cells.length = z ∧ okCells v.cells = true ∧ i < es.length then fillRows E z (es.set i v.cells) r else none
    | none => none
def appV (H : Gt) (n : Nat) (t : TypeId) (z bytes : Nat) (q : Option PA) (len cap : Nat) (news : List (List VV)) : Option (VV × Up) :=
  let need := len + news.length
  if need ≤ cap then
    if news = [] then some (.sl q len cap, []) else
    match q with
    | none => none
    | some p => match H p.blk with
      | some (.row t' md (e :: es)) => if md ≠ .ro ∧ p.off = 0 ∧ e.length = z ∧ p.idx + need ≤ es.length + 1 then
            some (.sl (some p) need cap, [(p.blk, .row t' md (updRows (e :: es) (p.idx + len) news))]) else none
      | _ => none
  else if need * bytes ≤ 140737488355328 ∧ need ≤ 4611686018427387904 then
    match q with
    | none => some (.sl (some ⟨n, 0, 0⟩) need need, [(n, .row t .loose news)])
    | some p => match H p.blk, srcEls H z (.sl q len cap) with
      | some (.row t' md es), some olds =>
        if md = .loose then
          (if t' = t ∧ p.off = 0 ∧ es.head?.map List.length = some z then some (.sl (some ⟨n, 0, 0⟩) need need, [(p.blk, .dead), (n, .row t .loose (olds ++ news))]) else none)
        else some (.sl (some ⟨n, 0, 0⟩) need need, [(n, .row t .loose (olds ++ news))])
      | _, _ => none
  else none
def okBytes : List (List VV) → Bool
  | [] => true
  | [.int .u8 n] :: r => inRng n 256 && okBytes r
  | _ => false
def VEf.ev (E : Fr) (H : Gt) (n : Nat) : VEf → Option (VV × Up)
  | .store m x v => match x.ev E, v.ev E with
    | some (.ptr (some p)), some u => if u.defd = true ∧ u.cells.length = m then (match stc H p u.cells with | some us => some (.undef, us) | none => none) else none
    | _, _ => none
  | .alloc t zs => some (.ptr (some ⟨n, 0, 0⟩), [(n, .row t .own [zs])])
  | .box t x => match x.ev E with
    | some u => if u.defd = true ∧ okCells u.cells = true then some (.ptr (some ⟨n, 0, 0⟩), [(n, .row t .own [u.cells])]) else none
    | none => none
  | .mkrow t zs m ps => match fillRows E zs.length (List.replicate m zs) ps with
    | some es => some (.sl (some ⟨n, 0, 0⟩) m m, [(n, .row t .own es)])
    | none => none
  | .mksl t bytes zs m c => match m.ev E, c.ev E with
    | some (.int .i64 l), some (.int .i64 k) => if 0 ≤ l ∧ l ≤ k ∧ (bytes : Int) * k ≤ 281474976710656 ∧ k ≤ 4611686018427387904 then some (.sl (some ⟨n, 0, 0⟩) l.toNat k.toNat, [(n, .row t .own (List.replicate k.toNat zs))]) else none
    | _, _ => none
  | .app t z bytes s x => match s.ev E, x.ev E with
    | some (.sl q len cap), some u => match srcEls H z u with
      | some news => appV H n t z bytes q len cap news
      | none => none
    | _, _ => none
  | .mkmap => some (.map (some n), [(n, .obj (.map []))])
  | .mset kk x k v => match x.ev E, k.ev E, v.ev E with
    | some (.map (some b)), some kv, some u => if kk.is kv = true then (match H b with
        | some (.obj (.map es)) => match findV kk kv es 0 with
          | some (some (i, _)) => some (.undef, [(b, .obj (.map (es.set i (kv, u))))])
          | some none => some (.undef, [(b, .obj (.map (es ++ [(kv, u)])))])
          | none => none
        | _ => none) else none
    | _, _, _ => none
  | .rng x => match x.ev E with
    | some (.map (some b)) => match H b with
      | some (.obj (.map es)) => some (.ptr (some ⟨n, 0, 0⟩), [(n, .obj (.iter b es.length []))])
      | _ => none
    | _ => none
  | .copy z d s => match d.ev E, s.ev E with
    | some (.sl q len cap), some u => match srcEls H z u with
      | some els => if els.length ≤ len then
        (match q with
        | none => some (.int .i64 0, [])
        | some p => match H p.blk with
          | some (.row t' md (e :: es)) => if md ≠ .ro ∧ p.off = 0 ∧ e.length = z ∧ p.idx + els.length ≤ es.length + 1 then
              some (.int .i64 els.length, [(p.blk, .row t' md (updRows (e :: es) p.idx els))]) else none
          | _ => none) else none
      | none => none
    | _, _ => none
  | .ment kk z x k => match x.ev E, k.ev E with
    | some (.map (some b)), some kv => if kk.is kv = true then (match H b with
        | some (.obj (.map es)) => match findV kk kv es 0 with
          | some (some (i, v)) => some (.tup [v, .int .i64 i], [(b, .obj (.map (es.set i (kv, v))))])
          | some none => some (.tup [z, .int .i64 es.length], [(b, .obj (.map (es ++ [(kv, z)])))])
          | none => none
        | _ => none) else none
    | _, _ => none
  | .mput x s v => match x.ev E, s.ev E, v.ev E with
    | some (.map (some b)), some (.int _ i), some u => match H b with
        | some (.obj (.map es)) => if 0 ≤ i then (match es[i.toNat]? with | some e => some (.undef, [(b, .obj (.map (es.set i.toNat (e.1, u))))]) | none => none) else none
        | _ => none
    | _, _, _ => none
  | .srng x => match x.ev E with
    | some (.str s) => some (.ptr (some ⟨n, 0, 0⟩), [(n, .obj (.siter s 0))])
    | _ => none
  | .snext x => match x.ev E with
    | some (.ptr (some p)) => match H p.blk with
      | some (.obj (.siter s pos)) => if p.idx = 0 ∧ p.off = 0 then (match s[pos]? with
          | some b => if b.toNat < 128 then some (.tup [.bool true, .int .i64 pos, .int .i32 b.toNat], [(p.blk, .obj (.siter s (pos + 1)))]) else some (.tup [.bool true, .int .i64 pos, .int .i32 (Utf8.decode ⟨s.toArray⟩ pos).1], [(p.blk, .obj (.siter s (pos + (Utf8.decode ⟨s.toArray⟩ pos).2)))])
          | none => some (.tup [.bool false], [])) else none
      | _ => none
    | _ => none
  | .ustr e x m => match x.ev E, m.ev E with
    | some (.ptr (some p)), some (.int .i64 k) => if p.idx = 0 ∧ p.off = 0 ∧ 0 < k then (match H p.blk with
        | some (.row t .own es) => if (es.length : Int) = k ∧ t = e ∧ k ≤ 4611686018427387904 ∧ okBytes es = true then (match bytesOf es with | some s => some (.str s, [(p.blk, .dead)]) | none => none) else none
        | _ => none) else none
    | _, _ => none
  | .appz t zs bytes s m => match s.ev E, m.ev E with
    | some (.sl none _ _), some (.int .i64 k) => if 0 < k ∧ k.toNat * bytes ≤ 140737488355328 ∧ k ≤ 4611686018427387904 then some (.sl (some ⟨n, 0, 0⟩) k.toNat k.toNat, [(n, .row t .loose (List.replicate k.toNat zs))]) else none
    | _, _ => none
  | .resl m x => match x.ev E with
    | some (.ptr (some p)) => if p.idx = 0 ∧ p.off = 0 then (match H p.blk with
        | some (.row t .own [cs]) => if cs.length = m ∧ 0 < m then some (.sl (some ⟨n, 0, 0⟩) m m, [(p.blk, .dead), (n, .row t .own (cs.map fun c => [c]))]) else none
        | _ => none) else none
    | _ => none
  | .sbytes x => match x.ev E with
    | some (.str s) => some (.sl (some ⟨n, 0, 0⟩) s.length s.length, [(n, .obj (.bytes s))])
    | _ => none

/-! ### a heap that is quick to ask -/
inductive Tree (α : Type) where
  | e
  | n (v : α) (l r : Tree α)
/-- the heap; 'j': which blocks were written -/
structure Tr where
  n : Nat
  t : Tree Blk
  j : List Nat
/-- is it to be done? -/
def want (E : Fr) : Option (Nat × Bool) → Option Bool
  | none => some true
  | some (s, b) => match E.get s with | some (.bool c) => some (c == b) | some (.tup []) => some false | _ => none
def Fr.pt (E : Fr) (d : Option Nat) (v : VV) : Fr := match d with | some s => (s, v) :: E | none => E
def Fr.defer (E : Fr) (v : VV) : Fr := match E.get dslot with
  | some (.tup l) => (dslot, .tup (v :: l)) :: E
  | _ => (dslot, .tup [v]) :: E
structure FRow where
  f : FuncId
  n : Nat
  vc : VC
  rs : List RV
def resL (F : Fr) (H : Gt) : List RV → Option (List VV)
  | [] => some []
  | .t s :: r => match F.get s, resL F H r with | some v, some l => some (v :: l) | _, _ => none
  | .c s n ag :: r => match (VOp.load n ag (.t s)).ev F H, resL F H r with | some v, some l => some (v :: l) | _, _ => none
def resV (F : Fr) (H : Gt) (l : List RV) : Option VV :=
  match resL F H l with
  | some [v] => some v
  | some vs => some (.tup vs)
  | none => none
def argsF : Nat → List VV → Fr
  | _, [] => []
  | k, v :: r => (k, v) :: argsF (Nat.succ k) r
def zipF : List Nat → List VV → Fr → Option Fr
  | [], [], F => some F
  | s :: ps, v :: vs, F => zipF ps vs ((s, v) :: F)
  | _, _, _ => none
end Go.Wm
