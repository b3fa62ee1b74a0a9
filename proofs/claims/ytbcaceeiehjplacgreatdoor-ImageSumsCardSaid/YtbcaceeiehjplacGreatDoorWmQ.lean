/- The canonical machine, run so that the kernel has little to keep: each step hands on what is reckoned already. -/
import Derived.Test.YtbcaceeiehjplacGreatDoorWmB
namespace Go.Wm
set_option linter.unusedVariables false
set_option linter.unusedSimpArgs false
def VOp.evF : VOp → Fr → Gt → Option VV
  | .mv x => fun E H => x.ev E
  | .pick c a b => fun E H => match c.ev E with | some (.bool b') => if b' then a.ev E else b.ev E | _ => none
  | .load n ag x => fun E H => match x.ev E with | some (.ptr (some p)) => if ag then (match lds H p n with | some l => some (.agg l) | none => none) else ld H p | _ => none
  | .nilck x => fun E H => match x.ev E with | some (.ptr (some p)) => some (.ptr (some p)) | some (.fn f c) => some (.fn f c) | some (.yield b) => some (.yield b) | some (.ifc t v) => some (.ifc t v) | _ => none
  | .bin op x y => fun E H => match x.ev E, y.ev E with | some u, some v => Wm.bin op u v | _, _ => none
  | .sh left x y => fun E H => match x.ev E, y.ev E with
    | some (.int k a), some (.int _ b) => if 0 ≤ b then some (.int k (if left then wrapK k (a * ((2 ^ (min b.toNat k.bits) : Nat) : Int)) else a.fdiv ((2 ^ (min b.toNat k.bits) : Nat) : Int))) else none
    | _, _ => none
  | .beq ng x y => fun E H => match x.ev E, y.ev E with | some (.bool b), some (.bool c) => some (.bool (if ng then b != c else b == c)) | _, _ => none
  | .not x => fun E H => match x.ev E with | some (.bool b) => some (.bool !b) | _ => none
  | .conv k x => fun E H => match x.ev E with | some (.int _ n) => some (.int k (wrapK k n)) | _ => none
  | .mkfn f caps => fun E H => match Od.evs E caps with | some l => some (.fn f l) | none => none
  | .faddr off x => fun E H => match x.ev E with | some (.ptr (some p)) => some (.ptr (some ⟨p.blk, p.idx, p.off + off⟩)) | _ => none
  | .fld off n ag x => fun E H => match x.ev E with | some (.agg cs) => partOf cs off n ag | _ => none
  | .ixa esz x i => fun E H => match x.ev E, i.ev E with
    | some (.sl (some p) m _), some (.int _ k) => if inRng k m = true then (match ixp H p k.toNat esz with | some q => some (.ptr (some q)) | none => none) else none
    | _, _ => none
  | .ixar m esz x i => fun E H => match x.ev E, i.ev E with
    | some (.ptr (some p)), some (.int _ k) => if inRng k m = true then (match ixp H p k.toNat esz with | some q => some (.ptr (some q)) | none => none) else none
    | _, _ => none
  | .lens x => fun E H => match x.ev E with | some (.sl _ m _) => some (.int .i64 m) | _ => none
  | .lent x => fun E H => match x.ev E with | some (.str s) => some (.int .i64 s.length) | _ => none
  | .lenm x => fun E H => match x.ev E with | some u => (match mapOf H u with | some es => some (.int .i64 es.length) | none => none) | _ => none
  | .min2 x y => fun E H => match x.ev E, y.ev E with | some (.int k a), some (.int _ b) => some (.int k (if b < a then b else a)) | _, _ => none
  | .max2 x y => fun E H => match x.ev E, y.ev E with | some (.int k a), some (.int _ b) => some (.int k (if b > a then b else a)) | _, _ => none
  | .ext i x => fun E H => match x.ev E with | some (.tup vs) => vs[i]? | _ => none
  | .build zs ps => fun E H => match fillVV E zs ps with | some cs => some (.agg cs) | none => none
  | .slc esz x lo hi mx => fun E H => match x.ev E with
    | some (.sl q m c) => match Od.oev E 0 lo, Od.oev E m hi, Od.oev E c mx with
      | some l, some h, some k => slcV H esz q m c l h k mx.isSome
      | _, _, _ => none
    | _ => none
  | .slstr x lo hi => fun E H => match x.ev E with
    | some (.str s) => match Od.oev E 0 lo, Od.oev E s.length hi with
      | some l, some h => if 0 ≤ l ∧ l ≤ h ∧ h ≤ s.length then some (.str ((s.take h.toNat).drop l.toNat)) else none
      | _, _ => none
    | _ => none
  | .ixs x i => fun E H => match x.ev E, i.ev E with
    | some (.str s), some (.int _ k) => if 0 ≤ k then (match s[k.toNat]? with | some b => some (.int .u8 b.toNat) | none => none) else none
    | _, _ => none
  | .lkp kk z ok x k => fun E H => match x.ev E, k.ev E with
    | some u, some v => match mapOf H u with
      | some es => if kk.is v = true then (match findV kk v es 0 with
          | some (some (_, y)) => some (if ok then .tup [y, .bool true] else y)
          | some none => some (if ok then .tup [z, .bool false] else z)
          | none => none) else none
      | none => none
    | _, _ => none
  | .ent x => fun E H => match x.ev E with
    | some (.ptr (some p)) => match H p.blk with
      | some (.obj (.iter m n seen)) => match seen.getLast?, H m with
        | some k, some (.obj (.map es)) => if es.length = n ∧ p.idx = 0 ∧ p.off = 0 then (match es[k]? with | some e => some (.tup [e.1, e.2]) | none => none) else none
        | _, _ => none
      | _ => none
    | _ => none
  | .aeq ng ks x y => fun E H => match x.ev E, y.ev E with
    | some (.agg cs), some (.agg ds) => match aeqK ks cs ds with | some b => some (.bool (if ng then !b else b)) | none => none
    | _, _ => none
  | .neq kd ng x y => fun E H => match x.ev E, y.ev E with
    | some u, some v => match neqV H kd u v with | some b => some (.bool (if ng then !b else b)) | none => none
    | _, _ => none
  | .seq op x y => fun E H => match x.ev E, y.ev E with
    | some (.str a), some (.str b) => strOp op a b
    | _, _ => none
  | .neg x => fun E H => match x.ev E with | some (.int k n) => some (.int k (wrapK k (ineg n))) | _ => none
  | .chr x => fun E H => match x.ev E with | some (.int _ n) => if 0 ≤ n ∧ n < 128 then some (.str [UInt8.ofNat n.toNat]) else some (.str (Utf8.encode n).data.toList) | _ => none
  | .bstr x => fun E H => match x.ev E with
    | some (.sl q m c) => match srcEls H 1 (.sl q m c) with
      | some l => match bytesOf l with | some s => some (.str s) | none => none
      | none => none
    | _ => none
  | .ixb x y => fun E H => match x.ev E, y.ev E with
    | some (.str s), some (.int .u8 c) => some (.int .i64 (idxOf8 (UInt8.ofNat c.toNat) s 0))
    | _, _ => none
  | .mki t x => fun E H => match x.ev E with | some v => some (.ifc t v) | none => none
  | .capm x => fun E H => match x.ev E with
    | some (.sl none _ _) => some (.int .i64 0)
    | some (.sl (some p) _ c) => match H p.blk with
      | some (.row _ .ro _) | some (.row _ .own _) => some (.int .i64 c)
      | _ => none
    | _ => none
  | .s2a n x => fun E H => match x.ev E with | some (.sl (some p) m _) => if 0 < n ∧ n ≤ m then some (.ptr (some p)) else none | _ => none
  | .lda n x => fun E H => match x.ev E with
    | some (.ptr (some p)) => match lds H p n with
      | some l => some (.agg l)
      | none => match H p.blk with
        | some (.obj (.bytes s)) => if p.idx = 0 ∧ p.off = 0 ∧ n ≤ s.length then some (.agg ((s.take n).map fun b => .int .u8 b.toNat)) else none
        | _ => none
    | _ => none
def VEf.evF : VEf → Fr → Gt → Nat → Option (VV × Up)
  | .store m x v => fun E H n => match x.ev E, v.ev E with
    | some (.ptr (some p)), some u => if u.defd = true ∧ u.cells.length = m then (match stc H p u.cells with | some us => some (.undef, us) | none => none) else none
    | _, _ => none
  | .alloc t zs => fun E H n => some (.ptr (some ⟨n, 0, 0⟩), [(n, .row t .own [zs])])
  | .box t x => fun E H n => match x.ev E with
    | some u => if u.defd = true ∧ okCells u.cells = true then some (.ptr (some ⟨n, 0, 0⟩), [(n, .row t .own [u.cells])]) else none
    | none => none
  | .mkrow t zs m ps => fun E H n => match fillRows E zs.length (List.replicate m zs) ps with
    | some es => some (.sl (some ⟨n, 0, 0⟩) m m, [(n, .row t .own es)])
    | none => none
  | .mksl t bytes zs m c => fun E H n => match m.ev E, c.ev E with
    | some (.int .i64 l), some (.int .i64 k) => if 0 ≤ l ∧ l ≤ k ∧ (bytes : Int) * k ≤ 281474976710656 ∧ k ≤ 4611686018427387904 then some (.sl (some ⟨n, 0, 0⟩) l.toNat k.toNat, [(n, .row t .own (List.replicate k.toNat zs))]) else none
    | _, _ => none
  | .app t z bytes s x => fun E H n => match s.ev E, x.ev E with
    | some (.sl q len cap), some u => match srcEls H z u with
      | some news => appV H n t z bytes q len cap news
      | none => none
    | _, _ => none
  | .mkmap => fun E H n => some (.map (some n), [(n, .obj (.map []))])
  | .mset kk x k v => fun E H n => match x.ev E, k.ev E, v.ev E with
    | some (.map (some b)), some kv, some u => if kk.is kv = true then (match H b with
        | some (.obj (.map es)) => match findV kk kv es 0 with
          | some (some (i, _)) => some (.undef, [(b, .obj (.map (es.set i (kv, u))))])
          | some none => some (.undef, [(b, .obj (.map (es ++ [(kv, u)])))])
          | none => none
        | _ => none) else none
    | _, _, _ => none
  | .rng x => fun E H n => match x.ev E with
    | some (.map (some b)) => match H b with
      | some (.obj (.map es)) => some (.ptr (some ⟨n, 0, 0⟩), [(n, .obj (.iter b es.length []))])
      | _ => none
    | _ => none
  | .copy z d s => fun E H n => match d.ev E, s.ev E with
    | some (.sl q len cap), some u => match srcEls H z u with
      | some els => if els.length ≤ len then
        (match q with
        | none => some (.int .i64 0, [])
        | some p => match H p.blk with
          | some (.row t' md (e :: es)) => if md ≠ .ro ∧ p.off = 0 ∧ e.length = z ∧ p.idx + els.length ≤ es.length + 1 then
              some (.int .i64 els.length, [(p.blk, .row t' md (updRows (e :: es) p.idx els))]) else none
          | _ => none) else none
      | none => none
    | _, _ => none
  | .ment kk z x k => fun E H n => match x.ev E, k.ev E with
    | some (.map (some b)), some kv => if kk.is kv = true then (match H b with
        | some (.obj (.map es)) => match findV kk kv es 0 with
          | some (some (i, v)) => some (.tup [v, .int .i64 i], [(b, .obj (.map (es.set i (kv, v))))])
          | some none => some (.tup [z, .int .i64 es.length], [(b, .obj (.map (es ++ [(kv, z)])))])
          | none => none
        | _ => none) else none
    | _, _ => none
  | .mput x s v => fun E H n => match x.ev E, s.ev E, v.ev E with
    | some (.map (some b)), some (.int _ i), some u => match H b with
        | some (.obj (.map es)) => if 0 ≤ i then (match es[i.toNat]? with | some e => some (.undef, [(b, .obj (.map (es.set i.toNat (e.1, u))))]) | none => none) else none
        | _ => none
    | _, _, _ => none
  | .srng x => fun E H n => match x.ev E with
    | some (.str s) => some (.ptr (some ⟨n, 0, 0⟩), [(n, .obj (.siter s 0))])
    | _ => none
  | .snext x => fun E H n => match x.ev E with
    | some (.ptr (some p)) => match H p.blk with
      | some (.obj (.siter s pos)) => if p.idx = 0 ∧ p.off = 0 then (match s[pos]? with
          | some b => if b.toNat < 128 then some (.tup [.bool true, .int .i64 pos, .int .i32 b.toNat], [(p.blk, .obj (.siter s (pos + 1)))]) else some (.tup [.bool true, .int .i64 pos, .int .i32 (Utf8.decode ⟨s.toArray⟩ pos).1], [(p.blk, .obj (.siter s (pos + (Utf8.decode ⟨s.toArray⟩ pos).2)))])
          | none => some (.tup [.bool false], [])) else none
      | _ => none
    | _ => none
  | .ustr e x m => fun E H n => match x.ev E, m.ev E with
    | some (.ptr (some p)), some (.int .i64 k) => if p.idx = 0 ∧ p.off = 0 ∧ 0 < k then (match H p.blk with
        | some (.row t .own es) => if (es.length : Int) = k ∧ t = e ∧ k ≤ 4611686018427387904 ∧ okBytes es = true then (match bytesOf es with | some s => some (.str s, [(p.blk, .dead)]) | none => none) else none
        | _ => none) else none
    | _, _ => none
  | .appz t zs bytes s m => fun E H n => match s.ev E, m.ev E with
    | some (.sl none _ _), some (.int .i64 k) => if 0 < k ∧ k.toNat * bytes ≤ 140737488355328 ∧ k ≤ 4611686018427387904 then some (.sl (some ⟨n, 0, 0⟩) k.toNat k.toNat, [(n, .row t .loose (List.replicate k.toNat zs))]) else none
    | _, _ => none
  | .resl m x => fun E H n => match x.ev E with
    | some (.ptr (some p)) => if p.idx = 0 ∧ p.off = 0 then (match H p.blk with
        | some (.row t .own [cs]) => if cs.length = m ∧ 0 < m then some (.sl (some ⟨n, 0, 0⟩) m m, [(p.blk, .dead), (n, .row t .own (cs.map fun c => [c]))]) else none
        | _ => none) else none
    | _ => none
  | .sbytes x => fun E H n => match x.ev E with
    | some (.str s) => some (.sl (some ⟨n, 0, 0⟩) s.length s.length, [(n, .obj (.bytes s))])
    | _ => none
theorem VOp.evF_eq (x : VOp) (E : Fr) (H : Gt) : x.evF E H = x.ev E H := by cases x <;> rfl
theorem VEf.evF_eq (x : VEf) (E : Fr) (H : Gt) (n : Nat) : x.evF E H n = x.ev E H n := by cases x <;> rfl
/-! ### small things -/
section

variable {R : Type}
noncomputable def obK {α : Type} (o : Option α) (k : α → Option R) : Option R := Option.rec none k o
noncomputable def natK (n : Nat) (k : Nat → R) : R := Nat.rec (k 0) (fun m _ => k (Nat.succ m)) n
noncomputable def intK (x : Int) (k : Int → R) : R := Int.rec (fun n => natK n fun n => k (.ofNat n)) (fun n => natK n fun n => k (.negSucc n)) x
noncomputable def listK {α : Type} (f : α → (α → R) → R) (l : List α) : (List α → R) → R :=
  List.rec (motive := fun _ => (List α → R) → R) (fun k => k []) (fun x _ ih k => f x fun x' => ih fun l' => k (x' :: l')) l
noncomputable def kindK (k : IntKind) (f : IntKind → R) : R := IntKind.rec (f .i8) (f .i16) (f .i32) (f .i64) (f .u8) (f .u16) (f .u32) (f .u64) k
noncomputable def paK (p : PA) (k : PA → R) : R := PA.rec (fun a b c => natK a fun a => natK b fun b => natK c fun c => k ⟨a, b, c⟩) p
noncomputable def opaK (p : Option PA) (k : Option PA → R) : R := Option.rec (k none) (fun p => paK p fun p => k (some p)) p
noncomputable def byteK (b : UInt8) (k : UInt8 → R) : R := natK b.toNat fun n => k (UInt8.ofNat n)
theorem obK_some {α : Type} {o : Option α} {k : α → Option R} {a : R} (h : obK o k = some a) : ∃ x, o = some x ∧ k x = some a := by
  cases o with
  | none => cases h
  | some x => exact ⟨x, rfl, h⟩
@[simp] theorem natK_eq (n : Nat) (k : Nat → R) : natK n k = k n := by cases n <;> rfl
@[simp] theorem intK_eq (x : Int) (k : Int → R) : intK x k = k x := by
  cases x <;> simp [intK]
theorem listK_eq {α : Type} (f : α → (α → R) → R) (hf : ∀ x k, f x k = k x) : ∀ (l : List α) (k : List α → R), listK f l k = k l
  | [], k => rfl
  | x :: l, k => by
    show f x (fun x' => listK f l fun l' => k (x' :: l')) = _
    rw [hf, listK_eq f hf l]
@[simp] theorem kindK_eq (t : IntKind) (f : IntKind → R) : kindK t f = f t := by cases t <;> rfl
@[simp] theorem paK_eq (p : PA) (k : PA → R) : paK p k = k p := by
  obtain ⟨a, b, c⟩ := p
  simp [paK]
@[simp] theorem opaK_eq (p : Option PA) (k : Option PA → R) : opaK p k = k p := by
  cases p <;> simp [opaK]
@[simp] theorem byteK_eq (b : UInt8) (k : UInt8 → R) : byteK b k = k b := by
  unfold byteK
  rw [natK_eq, UInt8.ofNat_toNat]
@[simp] theorem bytesK_eq (l : List UInt8) (k : List UInt8 → R) : listK byteK l k = k l := listK_eq _ (fun _ _ => byteK_eq _ _) l k
@[simp] theorem natsK_eq (l : List Nat) (k : List Nat → R) : listK natK l k = k l := listK_eq _ (fun _ _ => natK_eq _ _) l k
section
variable (R)
noncomputable abbrev vk1 : (VV → R) → R := fun k => k .undef
noncomputable abbrev vk2 : Bool → (VV → R) → R := fun b k => Bool.rec (k (.bool false)) (k (.bool true)) b
noncomputable abbrev vk3 : IntKind → Int → (VV → R) → R := fun t n k => kindK t fun t => intK n fun n => k (.int t n)
noncomputable abbrev vk4 : List UInt8 → (VV → R) → R := fun s k => listK byteK s fun s => k (.str s)
noncomputable abbrev vk5 : Option PA → (VV → R) → R := fun p k => opaK p fun p => k (.ptr p)
noncomputable abbrev vk6 : Option PA → Nat → Nat → (VV → R) → R := fun p a b k => opaK p fun p => natK a fun a => natK b fun b => k (.sl p a b)
noncomputable abbrev vk7 : FuncId → List VV → ((List VV → R) → R) → (VV → R) → R := fun f _ ih k => ih fun l => k (.fn f l)
noncomputable abbrev vk8 : (VV → R) → R := fun k => k .nilFn
noncomputable abbrev vk9 : List VV → ((List VV → R) → R) → (VV → R) → R := fun _ ih k => ih fun l => k (.agg l)
noncomputable abbrev vk10 : List VV → ((List VV → R) → R) → (VV → R) → R := fun _ ih k => ih fun l => k (.tup l)
noncomputable abbrev vk11 : Option Nat → (VV → R) → R := fun p k => Option.rec (k (.map none)) (fun b => natK b fun b => k (.map (some b))) p
noncomputable abbrev vk12 : (VV → R) → R := fun k => k .nilI
noncomputable abbrev vk13 : Nat → (VV → R) → R := fun b k => natK b fun b => k (.yield b)
noncomputable abbrev vki : TypeId → VV → ((VV → R) → R) → (VV → R) → R := fun t _ ih k => natK t fun t => ih fun v => k (.ifc t v)
noncomputable abbrev vk14 : (List VV → R) → R := fun k => k []
noncomputable abbrev vk15 : VV → List VV → ((VV → R) → R) → ((List VV → R) → R) → (List VV → R) → R := fun _ _ ih1 ih2 k => ih1 fun v => ih2 fun l => k (v :: l)
end
/-- the value, reckoned -/
noncomputable def vvK (v : VV) : (VV → R) → R :=
  VV.rec (motive_1 := fun _ => (VV → R) → R) (motive_2 := fun _ => (List VV → R) → R) (vk1 R) (vk2 R) (vk3 R) (vk4 R) (vk5 R) (vk6 R) (vk7 R) (vk8 R) (vk9 R) (vk10 R) (vk11 R) (vk12 R) (vk13 R) (vki R) (vk14 R) (vk15 R) v
noncomputable def vvsK (v : List VV) : (List VV → R) → R :=
  VV.rec_1 (motive_1 := fun _ => (VV → R) → R) (motive_2 := fun _ => (List VV → R) → R) (vk1 R) (vk2 R) (vk3 R) (vk4 R) (vk5 R) (vk6 R) (vk7 R) (vk8 R) (vk9 R) (vk10 R) (vk11 R) (vk12 R) (vk13 R) (vki R) (vk14 R) (vk15 R) v
@[simp] theorem vvK_eq (v : VV) : ∀ k : VV → R, vvK v k = k v := by
  refine VV.rec (motive_1 := fun v => ∀ k : VV → R, vvK v k = k v) (motive_2 := fun l => ∀ k : List VV → R, vvsK l k = k l) ?_ ?_ ?_ ?_ ?_ ?_ ?_ ?_ ?_ ?_ ?_ ?_ ?_ ?_ ?_ ?_ v
  · intro k; rfl
  · intro b k; cases b <;> rfl
  · intro t n k; show kindK t (fun t => intK n fun n => k (.int t n)) = _; simp
  · intro s k; show listK byteK s (fun s => k (.str s)) = _; simp
  · intro p k; show opaK p (fun p => k (.ptr p)) = _; simp
  · intro p a b k; show opaK p (fun p => natK a fun a => natK b fun b => k (.sl p a b)) = _; simp
  · intro f l ih k; show vvsK l (fun l => k (.fn f l)) = _; rw [ih]
  · intro k; rfl
  · intro l ih k; show vvsK l (fun l => k (.agg l)) = _; rw [ih]
  · intro l ih k; show vvsK l (fun l => k (.tup l)) = _; rw [ih]
  · intro p k; cases p with
    | none => rfl
    | some b => show natK b (fun b => k (.map (some b))) = _; simp
  · intro k; rfl
  · intro b k; show natK b (fun b => k (.yield b)) = _; simp
  · intro t v ih k; show natK t (fun t => vvK v fun v => k (.ifc t v)) = _; rw [natK_eq, ih]
  · intro k; rfl
  · intro v l ih1 ih2 k; show vvK v (fun v => vvsK l fun l => k (v :: l)) = _; rw [ih1, ih2]
@[simp] theorem vvlK_eq (l : List VV) (k : List VV → R) : listK vvK l k = k l := listK_eq _ (fun v k => vvK_eq v k) l k
noncomputable def nthK {α : Type} (l : List α) : Nat → (α → Option R) → Option R :=
  List.rec (motive := fun _ => Nat → (α → Option R) → Option R) (fun _ _ => none) (fun x _ ih i k => Nat.rec (k x) (fun m _ => ih m k) i) l
theorem nthK_some {α : Type} : ∀ {l : List α} {i : Nat} {k : α → Option R} {a : R}, nthK l i k = some a → ∃ x, l[i]? = some x ∧ k x = some a
  | [], i, k, a, h => by cases h
  | x :: l, 0, k, a, h => ⟨x, rfl, h⟩
  | x :: l, i + 1, k, a, h => nthK_some (l := l) (i := i) h
noncomputable def setK {α : Type} (l : List α) : Nat → α → (List α → R) → R :=
  List.rec (motive := fun _ => Nat → α → (List α → R) → R) (fun _ _ k => k []) (fun x r ih i v k => Nat.rec (k (v :: r)) (fun m _ => ih m v fun l => k (x :: l)) i) l
@[simp] theorem setK_eq {α : Type} : ∀ (l : List α) (i : Nat) (v : α) (k : List α → R), setK l i v k = k (l.set i v)
  | [], i, v, k => rfl
  | x :: l, 0, v, k => rfl
  | x :: l, i + 1, v, k => by show setK l i v (fun l => k (x :: l)) = _; rw [setK_eq l]; rfl
noncomputable def getK (F : Fr) (s : Nat) (k : VV → Option R) : Option R :=
  List.rec (motive := fun _ => Option R) none (fun p _ ih => Prod.rec (fun a v => Bool.rec ih (k v) (Nat.beq a s)) p) F
theorem getK_eq : ∀ (F : Fr) (s : Nat) (k : VV → Option R), getK F s k = (F.get s).bind k
  | [], s, k => rfl
  | (a, v) :: F, s, k => by
    have e : getK ((a, v) :: F) s k = Bool.rec (motive := fun _ => Option R) (getK F s k) (k v) (Nat.beq a s) := rfl
    rw [e]
    unfold Fr.get
    cases Nat.beq a s
    · exact getK_eq F s k
    · rfl
theorem getK_some {F : Fr} {s : Nat} {k : VV → Option R} {a : R} (h : getK F s k = some a) : ∃ v, F.get s = some v ∧ k v = some a := by
  rw [getK_eq] at h
  exact Option.bind_eq_some_iff.1 h
noncomputable def geto (F : Fr) (s : Nat) : Option VV :=
  List.rec (motive := fun _ => Option VV) none (fun p _ ih => Prod.rec (fun a v => Bool.rec ih (some v) (Nat.beq a s)) p) F
theorem geto_eq : ∀ (F : Fr) (s : Nat), geto F s = F.get s
  | [], s => rfl
  | (a, v) :: F, s => by
    have e : geto ((a, v) :: F) s = Bool.rec (motive := fun _ => Option VV) (geto F s) (some v) (Nat.beq a s) := rfl
    rw [e]
    unfold Fr.get
    cases Nat.beq a s
    · exact geto_eq F s
    · rfl
noncomputable def ifcOf (v : VV) (k : TypeId → VV → Option R) : Option R := match v with | .ifc t v => k t v | _ => none
theorem ifcOf_some {v : VV} {k : TypeId → VV → Option R} {a : R} (h : ifcOf v k = some a) : ∃ t u, v = .ifc t u ∧ k t u = some a := by
  cases v with
  | ifc t u => exact ⟨t, u, rfl, h⟩
  | _ => cases h
noncomputable def odK (x : Od) : Fr → (VV → Option R) → Option R := Od.rec (fun s E k => getK E s k) (fun v _ k => k v) (fun s tbl E k => getK E s fun v => ifcOf v fun t _ => obK (tblGet tbl t) fun f => natK f fun f => k (.fn f [])) (fun s E k => getK E s fun v => ifcOf v fun _ u => k u) x
theorem odK_some {x : Od} {E : Fr} {k : VV → Option R} {a : R} (h : odK x E k = some a) : ∃ v, x.ev E = some v ∧ k v = some a := by
  cases x with
  | t s => exact getK_some h
  | c v => exact ⟨v, rfl, h⟩
  | mt s tbl =>
    obtain ⟨v, h1, h2⟩ := getK_some (show getK E s (fun v => ifcOf v fun t _ => obK (tblGet tbl t) fun f => natK f fun f => k (.fn f [])) = some a from h)
    obtain ⟨t, u, rfl, h3⟩ := ifcOf_some h2
    obtain ⟨f, h4, h5⟩ := obK_some h3
    rw [natK_eq] at h5
    exact ⟨.fn f [], by simp [Od.ev, h1, h4], h5⟩
  | ri s =>
    obtain ⟨v, h1, h2⟩ := getK_some (show getK E s (fun v => ifcOf v fun _ u => k u) = some a from h)
    obtain ⟨t, u, rfl, h3⟩ := ifcOf_some h2
    exact ⟨u, by simp [Od.ev, h1], h3⟩
noncomputable def odsK (l : List Od) : Fr → (List VV → Option R) → Option R :=
  List.rec (motive := fun _ => Fr → (List VV → Option R) → Option R) (fun _ k => k []) (fun x _ ih E k => odK x E fun v => ih E fun l => k (v :: l)) l
theorem odsK_some : ∀ {l : List Od} {E : Fr} {k : List VV → Option R} {a : R}, odsK l E k = some a → ∃ vs, Od.evs E l = some vs ∧ k vs = some a
  | [], E, k, a, h => ⟨[], rfl, h⟩
  | x :: l, E, k, a, h => by
    obtain ⟨v, h1, h2⟩ := odK_some (show odK x E (fun v => odsK l E fun l => k (v :: l)) = some a from h)
    obtain ⟨vs, h3, h4⟩ := odsK_some h2
    exact ⟨v :: vs, by simp [Od.evs, h1, h3], h4⟩

/-! ### the heap -/
noncomputable def treeG {α : Type} (t : Tree α) : Nat → Option α :=
  Tree.rec (motive := fun _ => Nat → Option α) (fun _ => none) (fun v _ _ il ir i => Bool.rec (Bool.rec (natK (Nat.div i 2) fun j => natK (Nat.pred j) ir) (natK (Nat.div i 2) il) (Nat.beq (Nat.mod i 2) 1)) (some v) (Nat.beq i 0)) t
noncomputable def treeS {α : Type} (t : Tree α) : Nat → α → (Tree α → Option R) → Option R :=
  Tree.rec (motive := fun _ => Nat → α → (Tree α → Option R) → Option R) (fun i b k => Bool.rec none (k (.n b .e .e)) (Nat.beq i 0))
    (fun v l r il ir i b k => Bool.rec (Bool.rec (natK (Nat.div i 2) fun j => natK (Nat.pred j) fun j => ir j b fun r' => k (.n v l r')) (natK (Nat.div i 2) fun j => il j b fun l' => k (.n v l' r)) (Nat.beq (Nat.mod i 2) 1)) (k (.n b l r)) (Nat.beq i 0)) t
theorem treeG_n {α : Type} (v : α) (l r : Tree α) (i : Nat) : treeG (.n v l r) i = if i = 0 then some v else if i % 2 = 1 then treeG l (i / 2) else treeG r (i / 2 - 1) := by
  have e : treeG (.n v l r) i = Bool.rec (motive := fun _ => Option α) (Bool.rec (motive := fun _ => Option α) (natK (Nat.div i 2) fun j => natK (Nat.pred j) (treeG r)) (natK (Nat.div i 2) (treeG l)) (Nat.beq (Nat.mod i 2) 1)) (some v) (Nat.beq i 0) := rfl
  rw [e]
  by_cases h : i = 0
  · subst h; rfl
  · have hb : Nat.beq i 0 = false := by cases i with | zero => exact absurd rfl h | succ i => rfl
    rw [hb, if_neg h]
    by_cases h1 : i % 2 = 1
    · have : Nat.beq (Nat.mod i 2) 1 = true := by show Nat.beq (i % 2) 1 = true; rw [h1]; rfl
      rw [this, if_pos h1]; simp only [cond_true, cond_false, natK_eq]; rfl
    · have : Nat.beq (Nat.mod i 2) 1 = false := by show Nat.beq (i % 2) 1 = false; rw [show i % 2 = 0 by omega]; rfl
      rw [this, if_neg h1]
      simp only [cond_true, cond_false, natK_eq]; rfl
theorem treeS_some {α : Type} : ∀ {t : Tree α} {i : Nat} {b : α} {k : Tree α → Option R} {a : R}, treeS t i b k = some a → ∃ t', (∀ j, treeG t' j = if j = i then some b else treeG t j) ∧ k t' = some a
  | .e, i, b, k, a, h => by
    cases i with
    | zero =>
      refine ⟨_, fun j => ?_, h⟩
      rw [treeG_n]
      by_cases hj : j = 0
      · simp [hj]
      · rw [if_neg hj, if_neg hj]; split <;> rfl
    | succ i => cases h
  | .n v l r, i, b, k, a, h => by
    by_cases h0 : i = 0
    · subst h0
      refine ⟨_, fun j => ?_, h⟩
      rw [treeG_n, treeG_n]
      split <;> rfl
    · have hb : Nat.beq i 0 = false := by cases i with | zero => exact absurd rfl h0 | succ i => rfl
      by_cases h1 : i % 2 = 1
      · have hm : Nat.beq (Nat.mod i 2) 1 = true := by show Nat.beq (i % 2) 1 = true; rw [h1]; rfl
        have h' : treeS l (i / 2) b (fun l' => k (.n v l' r)) = some a := by
          have : treeS (.n v l r) i b k = natK (Nat.div i 2) fun j => treeS l j b fun l' => k (.n v l' r) := by
            have e : treeS (.n v l r) i b k = Bool.rec (motive := fun _ => Option R) (Bool.rec (motive := fun _ => Option R) (natK (Nat.div i 2) fun j => natK (Nat.pred j) fun j => treeS r j b fun r' => k (.n v l r')) (natK (Nat.div i 2) fun j => treeS l j b fun l' => k (.n v l' r)) (Nat.beq (Nat.mod i 2) 1)) (k (.n b l r)) (Nat.beq i 0) := rfl
            rw [e, hb, hm]
          rw [this, natK_eq] at h; exact h
        obtain ⟨l', q1, q2⟩ := treeS_some h'
        refine ⟨_, fun j => ?_, q2⟩
        rw [treeG_n, treeG_n]
        by_cases hj : j = 0
        · subst hj; rw [if_pos rfl, if_neg (Ne.symm h0), if_pos rfl]
        · rw [if_neg hj, if_neg hj]
          by_cases hj1 : j % 2 = 1
          · rw [if_pos hj1, if_pos hj1, q1]
            by_cases hji : j = i
            · rw [if_pos hji, if_pos (by rw [hji])]
            · rw [if_neg hji, if_neg (by omega)]
          · rw [if_neg hj1, if_neg hj1, if_neg (by rintro rfl; exact hj1 h1)]
      · have hm : Nat.beq (Nat.mod i 2) 1 = false := by show Nat.beq (i % 2) 1 = false; rw [show i % 2 = 0 by omega]; rfl
        have h' : treeS r (i / 2 - 1) b (fun r' => k (.n v l r')) = some a := by
          have : treeS (.n v l r) i b k = natK (Nat.div i 2) fun j => natK (Nat.pred j) fun j => treeS r j b fun r' => k (.n v l r') := by
            have e : treeS (.n v l r) i b k = Bool.rec (motive := fun _ => Option R) (Bool.rec (motive := fun _ => Option R) (natK (Nat.div i 2) fun j => natK (Nat.pred j) fun j => treeS r j b fun r' => k (.n v l r')) (natK (Nat.div i 2) fun j => treeS l j b fun l' => k (.n v l' r)) (Nat.beq (Nat.mod i 2) 1)) (k (.n b l r)) (Nat.beq i 0) := rfl
            rw [e, hb, hm]
          rw [this, natK_eq, natK_eq] at h; exact h
        obtain ⟨r', q1, q2⟩ := treeS_some h'
        refine ⟨_, fun j => ?_, q2⟩
        rw [treeG_n, treeG_n]
        by_cases hj : j = 0
        · subst hj; rw [if_pos rfl, if_neg (Ne.symm h0), if_pos rfl]
        · rw [if_neg hj, if_neg hj]
          by_cases hj1 : j % 2 = 1
          · rw [if_pos hj1, if_pos hj1, if_neg (by rintro rfl; exact h1 hj1)]
          · rw [if_neg hj1, if_neg hj1, q1]
            by_cases hji : j = i
            · rw [if_pos hji, if_pos (by rw [hji])]
            · rw [if_neg hji, if_neg (by omega)]
noncomputable def rowK (b : Blk) (k : Blk → R) : R :=
  Blk.rec (k .dead) (fun t m es => listK (fun e k => listK vvK e k) es fun es => k (.row t m es))
    (fun o => MOb.rec (fun es => listK (fun e k => Prod.rec (fun a c => vvK a fun a => vvK c fun c => k (a, c)) e) es fun es => k (.obj (.map es)))
      (fun m n seen => natK n fun n => listK natK seen fun seen => k (.obj (.iter m n seen)))
      (fun s pos => natK pos fun pos => k (.obj (.siter s pos))) (fun r => k (.obj (.loop r))) (fun b => Bool.rec (k (.obj (.defs false))) (k (.obj (.defs true))) b) (fun s => listK byteK s fun s => k (.obj (.bytes s))) o) b
@[simp] theorem rowK_eq (b : Blk) (k : Blk → R) : rowK b k = k b := by
  cases b with
  | dead => rfl
  | row t m es => show listK (fun e k => listK vvK e k) es (fun es => k (.row t m es)) = _; rw [listK_eq _ (fun x k => vvlK_eq x k)]
  | obj o =>
    cases o with
    | map es => show listK (fun e k => Prod.rec (fun a c => vvK a fun a => vvK c fun c => k (a, c)) e) es (fun es => k (.obj (.map es))) = _; rw [listK_eq _ (fun x k => by obtain ⟨a, c⟩ := x; show vvK a (fun a => vvK c fun c => k (a, c)) = _; simp)]
    | iter m n seen => show natK n (fun n => listK natK seen fun seen => k (.obj (.iter m n seen))) = _; simp
    | siter s pos => show natK pos (fun pos => k (.obj (.siter s pos))) = _; simp
    | loop r => rfl
    | defs b => cases b <;> rfl
    | bytes s => show listK byteK s (fun s => k (.obj (.bytes s))) = _; rw [bytesK_eq]
noncomputable def upK (us : Up) : Tr → (Tr → Option R) → Option R :=
  List.rec (motive := fun _ => Tr → (Tr → Option R) → Option R) (fun T k => k T)
    (fun p _ ih T k => Prod.rec (fun i b => Tr.rec (fun n t j => treeS t i b fun t' => Bool.rec (Bool.rec none (ih ⟨n, t', i :: j⟩ k) (Nat.ble i n)) (natK (Nat.succ n) fun n => ih ⟨n, t', i :: j⟩ k) (Nat.beq i n)) T) p) us
/-- what was written, reckoned -/
noncomputable def upsK (us : Up) : (Up → R) → R := listK (fun p k => Prod.rec (fun i b => natK i fun i => rowK b fun b => k (i, b)) p) us
@[simp] theorem upsK_eq (us : Up) (k : Up → R) : upsK us k = k us := listK_eq _ (fun p k => by obtain ⟨i, b⟩ := p; show natK i (fun i => rowK b fun b => k (i, b)) = _; simp) us k
end
end Go.Wm
