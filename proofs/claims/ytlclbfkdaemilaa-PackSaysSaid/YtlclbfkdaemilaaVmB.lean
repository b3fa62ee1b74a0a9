/- The operations that only read: what they come to over the canonical heap, and that the model's run comes to the same. -/
import Derived.Test.YtlclbfkdaemilaaVmA
namespace Go.Vm
set_option linter.unusedSimpArgs false
set_option linter.unusedVariables false
open Go.RowKit

inductive Od where
  | t (s : Nat)
  | c (v : VV)
def Od.ev (E : Fr) : Od → Option VV
  | .t s => E.get s
  | .c v => some v
def Od.evs (E : Fr) : List Od → Option (List VV)
  | [] => some []
  | x :: r => match x.ev E, Od.evs E r with | some v, some l => some (v :: l) | _, _ => none

def constVV : Value → Option VV
  | .bool b => some (.bool b)
  | .int k n => some (.int k n)
  | .string s => some (.str s.data.toList)
  | .pointer none => some (.ptr none)
  | .slice none 0 0 => some (.sl none 0 0)
  | .map none => some (.map none)
  | .nilFunc => some .nilFn
  | _ => none
def compOd : Operand → Option Od
  | .tmp t => some (.t t)
  | .const v => (constVV v).map .c
  | .func f => some (.c (.fn f []))
  | _ => none

theorem constVV_rel {σ : Sg} {v : Value} {x : VV} (h : constVV v = some x) : VRel σ x v := by
  unfold constVV at h
  split at h <;> first | (simp at h; subst h; first | exact .bool _ | exact .int _ _ | exact .ptrNil | exact .slNil | exact .mapNil | exact .nilFn | exact .str _) | cases h

theorem compOd_ok {σ : Sg} {N : Nat} {E : Fr} {a : Act} {x : Operand} {y : Od} {v : VV} (h : compOd x = some y) (hF : FRel σ N E a) (he : y.ev E = some v) : VRel σ v (a.eval x) := by
  unfold compOd at h
  split at h
  · simp at h; subst h; exact hF.2.2 _ _ he
  · rename_i u
    cases hc : constVV u with
    | none => rw [hc] at h; cases h
    | some z => rw [hc] at h; simp at h; subst h; simp [Od.ev] at he; subst he; exact constVV_rel hc
  · simp at h; subst h; simp [Od.ev] at he; subst he; exact .fn .nil
  · cases h

/-- cells of a type, and whether it is a struct or an array -/
def aggOf (P : Program) (t : TypeId) : Option (Nat × Bool) :=
  match P.info? t, P.underlying t with
  | some i, some u => some (i.size, match u with | .struct _ | .array _ _ => true | _ => false)
  | _, _ => none
theorem aggOf_run {P : Program} {t : TypeId} {n : Nat} {b : Bool} (h : aggOf P t = some (n, b)) (w : World) :
    (sizeOf t).run P w = .ok n w ∧ (isAgg t).run P w = .ok b w := by
  unfold aggOf at h
  cases hi : P.info? t with
  | none => rw [hi] at h; cases h
  | some i =>
    cases hu : P.underlying t with
    | none => rw [hi, hu] at h; cases h
    | some u =>
      rw [hi, hu] at h
      simp at h
      obtain ⟨h1, h2⟩ := h
      constructor
      · simp [sizeOf, typeInfo, hi, h1]
      · subst h2
        simp only [isAgg, underlying, Sem.run_bind, run_program, Result.andThen_ok, hu, Sem.run_pure]
        cases u <;> rfl

/-! ### reading -/
def ld (H : Hp) (p : PA) : Option VV :=
  match H[p.blk]? with
  | some (.row _ _ es) => match es[p.idx]? with | some e => e[p.off]? | none => none
  | _ => none
def lds (H : Hp) (p : PA) (n : Nat) : Option (List VV) :=
  match H[p.blk]? with
  | some (.row _ _ es) => match es[p.idx]? with | some e => if p.off + n ≤ e.length then some ((e.drop p.off).take n) else none | none => none
  | _ => none

theorem ld_ok {σ : Sg} {B : Nat} {H : Hp} {w : World} (h : HRel σ B H w) {p : PA} {v : VV} (hl : ld H p = some v) {a : Addr} (ha : σ.place p a) :
    ∃ v', VRel σ v v' ∧ v.cell = true ∧ a.block < w.heap.size ∧ w.cell? a = some v' := by
  unfold ld at hl
  split at hl
  · rename_i t md es hb
    cases he : es[p.idx]? with
    | none => rw [he] at hl; cases hl
    | some e =>
      rw [he] at hl
      obtain ⟨I, hR⟩ := h.rows _ _ _ _ hb
      obtain ⟨J, h1, h2⟩ := ha
      have : I = J := Option.some.inj (hR.here.symm.trans h1)
      subst this
      obtain ⟨hc, v', h3, h4⟩ := hR.cell _ _ _ _ he hl
      subst h2
      exact ⟨v', h4, hc, hR.lt, h3⟩
  · cases hl
theorem lds_ok {σ : Sg} {B : Nat} {H : Hp} {w : World} (h : HRel σ B H w) {p : PA} {n : Nat} {l : List VV} (hl : lds H p n = some l) {a : Addr} (ha : σ.place p a) :
    l.length = n ∧ a.block < w.heap.size ∧ ∃ l', LRel σ l l' ∧ ∀ (j : Nat) v, l'[j]? = some v → w.cell? (a.add j) = some v := by
  unfold lds at hl
  split at hl
  · rename_i t md es hb
    cases he : es[p.idx]? with
    | none => rw [he] at hl; cases hl
    | some e =>
      rw [he] at hl
      simp only at hl
      split at hl
      case isFalse => cases hl
      rename_i hle
      simp at hl
      obtain ⟨I, hR⟩ := h.rows _ _ _ _ hb
      obtain ⟨J, h1, h2⟩ := ha
      have : I = J := Option.some.inj (hR.here.symm.trans h1)
      subst this
      have hlen : l.length = n := by rw [← hl]; simp; omega
      have key : ∀ (j : Nat) v, l[j]? = some v → ∃ v', w.cell? (a.add j) = some v' ∧ VRel σ v v' := by
        intro j v hj
        rw [← hl, List.getElem?_take] at hj
        split at hj
        · rw [List.getElem?_drop] at hj
          obtain ⟨_, v', h3, h4⟩ := hR.cell _ _ _ _ he hj
          refine ⟨v', ?_, h4⟩
          rw [← h3, h2]
          unfold Addr.add
          split <;> simp_all [Nat.add_assoc]
        · cases hj
      refine ⟨hlen, by rw [h2]; exact hR.lt, ?_⟩
      -- the list of the cells' values
      have : ∀ (m : List VV) (k : Nat), (∀ (j : Nat) v, m[j]? = some v → ∃ v', w.cell? (a.add (k + j)) = some v' ∧ VRel σ v v') →
          ∃ m', LRel σ m m' ∧ ∀ (j : Nat) v, m'[j]? = some v → w.cell? (a.add (k + j)) = some v := by
        intro m
        induction m with
        | nil => exact fun k _ => ⟨[], .nil, by simp⟩
        | cons x m ih =>
          intro k hk
          obtain ⟨x', hx1, hx2⟩ := hk 0 x (by simp)
          obtain ⟨m', hm1, hm2⟩ := ih (k + 1) (fun j v hj => by have := hk (j + 1) v (by simpa using hj); rwa [show k + (j + 1) = k + 1 + j by omega] at this)
          refine ⟨x' :: m', .cons hx2 hm1, fun j v hj => ?_⟩
          cases j with
          | zero => simp at hj; subst hj; exact hx1
          | succ j => rw [show k + (j + 1) = k + 1 + j by omega]; exact hm2 j v (by simpa using hj)
      have h5 := this l 0 (fun j v hj => by rw [Nat.zero_add]; exact key j v hj)
      simpa using h5
  · cases hl

/-! ### the operations -/
def padd (esz : Nat) (p : PA) (k s : Nat) : PA := if p.off = 0 ∧ esz = s then ⟨p.blk, p.idx + k, 0⟩ else ⟨p.blk, p.idx, p.off + k * s⟩
def eszOf (H : Hp) (b : Nat) : Option Nat :=
  match H[b]? with
  | some (.row _ _ (e :: _)) => some e.length
  | _ => none
def ixp (H : Hp) (p : PA) (k s : Nat) : Option PA :=
  match eszOf H p.blk with
  | some z => some (padd z p k s)
  | none => none

theorem ixp_ok {σ : Sg} {B : Nat} {H : Hp} {w : World} (h : HRel σ B H w) {p q : PA} {k s : Nat} (hp : ixp H p k s = some q) {a : Addr} (ha : σ.place p a) : σ.place q (a.add (k * s)) := by
  unfold ixp eszOf at hp
  cases hb : H[p.blk]? with
  | none => simp [hb] at hp
  | some x =>
    cases x with
    | dead => simp [hb] at hp
    | obj o => simp [hb] at hp
    | row t md es =>
      cases es with
      | nil => simp [hb] at hp
      | cons e es =>
        simp [hb] at hp
        obtain ⟨I, hR⟩ := h.rows _ _ _ _ hb
        obtain ⟨J, h1, h2⟩ := ha
        have : I = J := Option.some.inj (hR.here.symm.trans h1)
        subst this
        have hz := hR.esz e (by simp)
        subst h2
        subst hp
        unfold padd
        split
        · rename_i hc
          obtain ⟨hc1, hc2⟩ := hc
          refine ⟨I, h1, ?_⟩
          unfold Addr.add
          split
          · rename_i h0
            simp [hc1]
            rcases Nat.mul_eq_zero.1 h0 with h0 | h0
            · simp [h0]
            · simp [← hz, hc2, h0]
          · simp [hc1, ← hz, hc2, Nat.add_mul, Nat.add_assoc]
        · refine ⟨I, h1, ?_⟩
          unfold Addr.add
          split
          · rename_i h0; simp [h0]
          · simp [Nat.add_assoc]

def partOf (cs : List VV) (off n : Nat) (ag : Bool) : Option VV :=
  if ag then (if off + n ≤ cs.length then some (.agg ((cs.drop off).take n)) else none) else cs[off]?

def iarith (op : BinOp) (k : IntKind) (x y : Int) : Option VV :=
  match op with
  | .add => some (.int k (k.wrap (x + y)))
  | .sub => some (.int k (k.wrap (x - y)))
  | .mul => some (.int k (k.wrap (x * y)))
  | .eql => some (.bool (x == y))
  | .neq => some (.bool (x != y))
  | .lss => some (.bool (decide (x < y)))
  | .leq => some (.bool (decide (x ≤ y)))
  | .gtr => some (.bool (decide (x > y)))
  | .geq => some (.bool (decide (x ≥ y)))
  | .quo => if y = 0 then none else some (.int k (k.wrap (x.tdiv y)))
  | .rem => if y = 0 then none else some (.int k (x.tmod y))
  | .and => some (.int k (k.wrap ((BitVec.ofInt k.bits x &&& BitVec.ofInt k.bits y).toNat : Nat)))
  | .or => some (.int k (k.wrap ((BitVec.ofInt k.bits x ||| BitVec.ofInt k.bits y).toNat : Nat)))
  | .xor => some (.int k (k.wrap ((BitVec.ofInt k.bits x ^^^ BitVec.ofInt k.bits y).toNat : Nat)))
  | .andNot => some (.int k (k.wrap ((BitVec.ofInt k.bits x &&& ~~~(BitVec.ofInt k.bits y)).toNat : Nat)))
  | _ => none

def bin (op : BinOp) (x y : VV) : Option VV :=
  match x, y with
  | .int k a, .int k' b => if k = k' then iarith op k a b else none
  | _, _ => none

/-- a map's keys -/
inductive KK where
  | int (k : IntKind)
  | str
  | bool
def KK.is : KK → VV → Bool
  | .int k, .int k' _ => decide (k' = k)
  | .str, .str _ => true
  | .bool, .bool _ => true
  | _, _ => false
def KK.same : VV → VV → Bool
  | .int _ a, .int _ b => a == b
  | .str a, .str b => a == b
  | .bool a, .bool b => a == b
  | _, _ => false
/-- where a key stands -/
def findV (kk : KK) (k : VV) : List (VV × VV) → Nat → Option (Option (Nat × VV))
  | [], _ => some none
  | e :: es, i => if kk.is e.1 = true then (if KK.same k e.1 = true then some (some (i, e.2)) else findV kk k es (i + 1)) else none
def mapOf (H : Hp) : VV → Option (List (VV × VV))
  | .map none => some []
  | .map (some b) => match H[b]? with | some (.obj (.map es)) => some es | _ => none
  | _ => none
inductive VOp where
  | mv (x : Od)
  | pick (c a b : Od)
  | load (n : Nat) (ag : Bool) (x : Od)
  | nilck (x : Od)
  | bin (op : BinOp) (x y : Od)
  | sh (left : Bool) (x y : Od)
  | beq (neg : Bool) (x y : Od)
  | not (x : Od)
  | conv (k : IntKind) (x : Od)
  | mkfn (f : FuncId) (caps : List Od)
  | faddr (off : Nat) (x : Od)
  | fld (off n : Nat) (ag : Bool) (x : Od)
  | ixa (esz : Nat) (x i : Od)
  | ixar (len esz : Nat) (x i : Od)
  | lens (x : Od)
  | lent (x : Od)
  | min2 (x y : Od)
  | max2 (x y : Od)
  | ext (i : Nat) (x : Od)
  | build (zs : List VV) (ps : List (Nat × Nat × Od))
  | slc (esz : Nat) (x : Od) (lo hi mx : Option Od)
  | slstr (x : Od) (lo hi : Option Od)
  | ixs (x i : Od)
  | aeq (neg : Bool) (ks : List Nat) (x y : Od)
  | lkp (kk : KK) (zero : VV) (ok : Bool) (x k : Od)
  | ent (x : Od)

def VV.defd : VV → Bool
  | .undef => false
  | _ => true
/-- an optional bound -/
def Od.oev (E : Fr) (d : Int) : Option Od → Option Int
  | none => some d
  | some x => match x.ev E with | some (.int _ n) => some n | _ => none
def upd (e : List VV) (off : Nat) : List VV → List VV
  | [] => e
  | c :: cs => upd (e.set off c) (off + 1) cs
def fillVV (E : Fr) (cs : List VV) : List (Nat × Nat × Od) → Option (List VV)
  | [] => some cs
  | (off, n, x) :: r => match x.ev E with
    | some v => if v.cells.length = n ∧ v.defd = true ∧ off + n ≤ cs.length then fillVV E (upd cs off v.cells) r else none
    | none => none
def aeqK : List Nat → List VV → List VV → Option Bool
  | [], [], [] => some true
  | 0 :: ks, .int k x :: l, .int k' y :: m => if k = k' then (match aeqK ks l m with | some b => some ((x == y) && b) | none => none) else none
  | 1 :: ks, .bool x :: l, .bool y :: m => match aeqK ks l m with | some b => some ((x == y) && b) | none => none
  | 2 :: ks, .str x :: l, .str y :: m => match aeqK ks l m with | some b => some ((x == y) && b) | none => none
  | _, _, _ => none
def slcV (H : Hp) (esz : Nat) (q : Option PA) (len cap : Nat) (l h m : Int) (three : Bool) : Option VV :=
  if 0 ≤ l ∧ l ≤ h ∧ h ≤ m ∧ m ≤ cap then
    match q with
    | none => some (.sl none 0 0)
    | some p => if cap = 0 then some (.sl (some p) 0 0) else
      match H[p.blk]? with
      | some (.row _ md (e :: _)) => if md = .loose ∧ ¬ (p.off = 0 ∧ e.length = esz) then none else
          some (.sl (some (if l = 0 then p else padd e.length p l.toNat esz)) (h - l).toNat (m - l).toNat)
      | _ => none
  else none

/-- one that only reads -/
def VOp.ev (E : Fr) (H : Hp) : VOp → Option VV
  | .mv x => x.ev E
  | .pick c a b => match c.ev E with | some (.bool b') => if b' then a.ev E else b.ev E | _ => none
  | .load n ag x => match x.ev E with | some (.ptr (some p)) => if ag then (match lds H p n with | some l => some (.agg l) | none => none) else ld H p | _ => none
  | .nilck x => match x.ev E with | some (.ptr (some p)) => some (.ptr (some p)) | some (.fn f c) => some (.fn f c) | _ => none
  | .bin op x y => match x.ev E, y.ev E with | some u, some v => Vm.bin op u v | _, _ => none
  | .sh left x y => match x.ev E, y.ev E with
    | some (.int k a), some (.int _ b) => if 0 ≤ b then some (.int k (if left then k.wrap (a * 2 ^ (min b.toNat k.bits)) else a.fdiv (2 ^ (min b.toNat k.bits)))) else none
    | _, _ => none
  | .beq neg x y => match x.ev E, y.ev E with | some (.bool b), some (.bool c) => some (.bool (if neg then b != c else b == c)) | _, _ => none
  | .not x => match x.ev E with | some (.bool b) => some (.bool !b) | _ => none
  | .conv k x => match x.ev E with | some (.int _ n) => some (.int k (k.wrap n)) | _ => none
  | .mkfn f caps => match Od.evs E caps with | some l => some (.fn f l) | none => none
  | .faddr off x => match x.ev E with | some (.ptr (some p)) => some (.ptr (some ⟨p.blk, p.idx, p.off + off⟩)) | _ => none
  | .fld off n ag x => match x.ev E with | some (.agg cs) => partOf cs off n ag | _ => none
  | .ixa esz x i => match x.ev E, i.ev E with
    | some (.sl (some p) m _), some (.int _ k) => if 0 ≤ k ∧ k < m then (match ixp H p k.toNat esz with | some q => some (.ptr (some q)) | none => none) else none
    | _, _ => none
  | .ixar m esz x i => match x.ev E, i.ev E with
    | some (.ptr (some p)), some (.int _ k) => if 0 ≤ k ∧ k < m then (match ixp H p k.toNat esz with | some q => some (.ptr (some q)) | none => none) else none
    | _, _ => none
  | .lens x => match x.ev E with | some (.sl _ m _) => some (.int .i64 m) | _ => none
  | .lent x => match x.ev E with | some (.str s) => some (.int .i64 s.length) | _ => none
  | .min2 x y => match x.ev E, y.ev E with | some (.int k a), some (.int _ b) => some (.int k (if b < a then b else a)) | _, _ => none
  | .max2 x y => match x.ev E, y.ev E with | some (.int k a), some (.int _ b) => some (.int k (if b > a then b else a)) | _, _ => none
  | .ext i x => match x.ev E with | some (.tup vs) => vs[i]? | _ => none
  | .build zs ps => match fillVV E zs ps with | some cs => some (.agg cs) | none => none
  | .slc esz x lo hi mx => match x.ev E with
    | some (.sl q m c) => match Od.oev E 0 lo, Od.oev E m hi, Od.oev E c mx with
      | some l, some h, some k => slcV H esz q m c l h k mx.isSome
      | _, _, _ => none
    | _ => none
  | .slstr x lo hi => match x.ev E with
    | some (.str s) => match Od.oev E 0 lo, Od.oev E s.length hi with
      | some l, some h => if 0 ≤ l ∧ l ≤ h ∧ h ≤ s.length then some (.str ((s.take h.toNat).drop l.toNat)) else none
      | _, _ => none
    | _ => none
  | .ixs x i => match x.ev E, i.ev E with
    | some (.str s), some (.int _ k) => if 0 ≤ k then (match s[k.toNat]? with | some b => some (.int .u8 b.toNat) | none => none) else none
    | _, _ => none
  | .lkp kk z ok x k => match x.ev E, k.ev E with
    | some u, some v => match mapOf H u with
      | some es => if kk.is v = true then (match findV kk v es 0 with
          | some (some (_, y)) => some (if ok then .tup [y, .bool true] else y)
          | some none => some (if ok then .tup [z, .bool false] else z)
          | none => none) else none
      | none => none
    | _, _ => none
  | .ent x => match x.ev E with
    | some (.ptr (some p)) => match H[p.blk]? with
      | some (.obj (.iter m n seen)) => match seen.getLast?, H[m]? with
        | some k, some (.obj (.map es)) => if es.length = n ∧ p.idx = 0 ∧ p.off = 0 then (match es[k]? with | some e => some (.tup [e.1, e.2]) | none => none) else none
        | _, _ => none
      | _ => none
    | _ => none
  | .aeq neg ks x y => match x.ev E, y.ev E with
    | some (.agg cs), some (.agg ds) => match aeqK ks cs ds with | some b => some (.bool (if neg then !b else b)) | none => none
    | _, _ => none

/-- a struct whose fields are each one cell that '==' compares by itself -/
def flatKinds (P : Program) : Nat → List Field → Option (List Nat)
  | _, [] => some []
  | i, f :: fs => if f.name ≠ "_" ∧ f.offset = i ∧ aggOf P f.type = some (1, false) then
      (match P.underlying f.type, flatKinds P (i + 1) fs with
        | some (.int _), some l => some (0 :: l)
        | some .bool, some l => some (1 :: l)
        | some .string, some l => some (2 :: l)
        | _, _ => none) else none
def flatStruct (P : Program) (t : TypeId) : Option (List Nat) :=
  match P.underlying t with
  | some (.struct fs) => if P.stoodInHeld t = false ∧ P.eqGuardType P.depth t = false then flatKinds P 0 fs.toList else none
  | _ => none
def zerosOf (P : Program) (t : TypeId) : Option (List VV) :=
  match P.info? t with
  | some i => match i.zero with | some z => z.cells.toList.mapM constVV | none => none
  | none => none
def compParts (P : Program) (place : Nat → Option (Nat × Nat)) : List (Nat × Operand) → Option (List (Nat × Nat × Od))
  | [] => some []
  | (i, x) :: r => match place i, compOd x, compParts P place r with | some (o, n), some y, some l => some ((o, n, y) :: l) | _, _, _ => none
def structPlaces (P : Program) (fs : Array Field) (i : Nat) : Option (Nat × Nat) :=
  match fs[i]? with
  | some f => match P.info? f.type with | some j => some (f.offset, j.size) | none => none
  | none => none
def keyKind (P : Program) (t : TypeId) : Option KK :=
  match P.underlying t with
  | some (.int k) => some (.int k)
  | some .string => some .str
  | some .bool => some .bool
  | _ => none
def zeroVV (P : Program) (t : TypeId) : Option VV :=
  match P.info? t with
  | some i => match i.zero with
    | some (.agg cs) => (cs.toList.mapM constVV).map .agg
    | some z => constVV z
    | none => none
  | none => none
def compO (x : Option Operand) : Option (Option Od) :=
  match x with | none => some none | some y => (compOd y).map some

def structField (P : Program) (t : TypeId) (f : Nat) : Option Field :=
  match P.underlying t with
  | some (.struct fs) => fs[f]?
  | _ => none

/-- the operation with what the types say of it -/
def compRead (P : Program) : Op → Option VOp
  | .move x | .assign x => (compOd x).map .mv
  | .pick c a b => match compOd c, compOd a, compOd b with | some c, some a, some b => some (.pick c a b) | _, _, _ => none
  | .load t x => match aggOf P t, compOd x with | some (n, b), some x => some (.load n b x) | _, _ => none
  | .nilCheck x => (compOd x).map .nilck
  | .binOp op t x y _ => match compOd x, compOd y with
    | some x, some y => match P.underlying t, op with
      | some .bool, .eql => some (.beq false x y)
      | some .bool, .neq => some (.beq true x y)
      | some (.struct _), .eql => match flatStruct P t with | some ks => some (.aeq false ks x y) | none => none
      | some (.struct _), .neq => match flatStruct P t with | some ks => some (.aeq true ks x y) | none => none
      | some (.int _), .shl => some (.sh true x y)
      | some (.int _), .shr => some (.sh false x y)
      | some (.int _), op => some (.bin op x y)
      | _, _ => none
    | _, _ => none
  | .unOp .not _ x => (compOd x).map .not
  | .convert s d x => match P.underlying s, P.underlying d, compOd x with | some (.int _), some (.int k), some x => some (.conv k x) | _, _, _ => none
  | .makeFunc (.func f) first caps => if first.size = 0 then (match caps.toList.mapM compOd with | some l => some (.mkfn f l) | none => none) else none
  | .fieldAddr s x f => match structField P s f, compOd x with
    | some g, some x => match P.info? g.type with | some i => if i.size = 0 then none else some (.faddr g.offset x) | none => none
    | _, _ => none
  | .field s x f => match structField P s f, compOd x with
    | some g, some x => match aggOf P g.type with | some (n, b) => some (.fld g.offset n b x) | none => none
    | _, _ => none
  | .indexAddr t x i => match P.underlying t, compOd x, compOd i with
    | some (.slice e), some x, some i => match P.info? e with | some j => some (.ixa j.size x i) | none => none
    | some (.array len e), some x, some i => match P.info? e with | some j => some (.ixar len j.size x i) | none => none
    | _, _, _ => none
  | .extract x i => (compOd x).map (.ext i)
  | .build t ps => match zerosOf P t, P.underlying t with
    | some zs, some (.struct fs) => if fs.all fun f => (P.info? f.type).isSome then (match compParts P (structPlaces P fs) ps.toList with | some l => some (.build zs l) | none => none) else none
    | some zs, some (.array _ e) => match P.info? e with
      | some j => match compParts P (fun i => some (i * j.size, j.size)) ps.toList with | some l => some (.build zs l) | none => none
      | none => none
    | _, _ => none
  | .slice t x lo hi mx => match P.underlying t, compOd x, compO lo, compO hi, compO mx with
    | some (.slice e), some x, some lo, some hi, some mx => if mx.isSome && hi.isNone then none else (match P.info? e with | some j => some (.slc j.size x lo hi mx) | none => none)
    | some .string, some x, some lo, some hi, some none => some (.slstr x lo hi)
    | _, _, _, _, _ => none
  | .index t x i => match P.underlying t, compOd x, compOd i with
    | some .string, some x, some i => some (.ixs x i)
    | _, _, _ => none
  | .lookup t x k ok => match P.underlying t, compOd x, compOd k with
    | some (.map kt et), some x, some k => match keyKind P kt, zeroVV P et with
      | some kk, some z => some (.lkp kk z ok x k)
      | _, _ => none
    | _, _, _ => none
  | .entry x => (compOd x).map .ent
  | .call c => match c.callee, c.args.toList, c.argTypes.toList with
    | .builtin .len, [x], [t] => match P.underlying t, compOd x with
      | some (.slice _), some x => some (.lens x)
      | some .string, some x => some (.lent x)
      | _, _ => none
    | .builtin .min, [x, y], _ => match compOd x, compOd y with | some x, some y => some (.min2 x y) | _, _ => none
    | .builtin .max, [x, y], _ => match compOd x, compOd y with | some x, some y => some (.max2 x y) | _, _ => none
    | _, _, _ => none
  | _ => none

/-- it comes to the same value in every world in which nothing that was there has turned -/
def ReadOk (P : Program) (σ : Sg) (w : World) (a : Act) (o : Oper) (v : VV) : Prop :=
  ∃ v', VRel σ v v' ∧ ∀ w2, Below w.heap.size w w2 → (execOp a.eval o).run P w2 = .ok (.value v') w2

section
variable {P : Program} {σ : Sg} {B N : Nat} {H : Hp} {w : World} {a : Act} {E : Fr} {o : Oper} {v : VV}

theorem ReadOk.of {v' : Value} (hv : VRel σ v v') (h : ∀ w2, Below w.heap.size w w2 → (execOp a.eval o).run P w2 = .ok (.value v') w2) : ReadOk P σ w a o v := ⟨v', hv, h⟩

theorem read_load {t : TypeId} {x : Operand} {y : Od} {n : Nat} {b : Bool} (ho : o.op = .load t x) (ht : aggOf P t = some (n, b)) (hx : compOd x = some y)
    (hH : HRel σ B H w) (hF : FRel σ N E a) (he : (VOp.load n b y).ev E H = some v) : ReadOk P σ w a o v := by
  simp only [VOp.ev] at he
  cases hy : y.ev E with
  | none => simp [hy] at he
  | some u =>
    have hu := compOd_ok hx hF hy
    cases u <;> simp [hy] at he
    rename_i p
    cases p with
    | none => simp at he
    | some p =>
      simp at he
      cases hu' : a.eval x <;> rw [hu'] at hu <;> cases hu
      rename_i ad hpl
      cases b with
      | true =>
        simp at he
        cases hl : lds H p n with
        | none => simp [hl] at he
        | some l =>
          simp [hl] at he
          subst he
          obtain ⟨hlen, hb, l', h1, h2⟩ := lds_ok hH hl hpl
          refine .of (.agg (cs' := l'.toArray) (by simpa using h1)) fun w2 hw2 => ?_
          have h3 := run_loadCells_list (P := P) w2 ad l' (fun j v hj => by
            rw [hw2.cell (p := ad.add j) (by unfold Addr.add; split <;> exact hb)]; exact h2 j v hj)
          rw [← h1.length, hlen] at h3
          simp [execOp, ho, hu', Instr.loadAt, Instr.sureAddr, loadVar, aggOf_run ht, h3]
      | false =>
        simp at he
        obtain ⟨v', h1, _, hb, h2⟩ := ld_ok hH he hpl
        refine .of h1 fun w2 hw2 => ?_
        have h3 : w2.cell? ad = some v' := by rw [hw2.cell hb]; exact h2
        simp [execOp, ho, hu', Instr.loadAt, Instr.sureAddr, loadVar, aggOf_run ht, h3]
end
end Go.Vm
