/- The operations, run so that the kernel has little to keep; each is what it is in the plain form. -/
import Derived.Test.YtbcaceeiehjplacGreatDoorWmQ
import Derived.Test.YtbcaceeiehjplacGreatDoorWmD
import Derived.Test.YtbcaceeiehjplacGreatDoorWmG
namespace Go.Wm
set_option linter.unusedVariables false
set_option linter.unusedSimpArgs false
section
variable {R : Type}
/-! ### the operations -/
noncomputable def ptrOf (v : VV) (k : PA → Option R) : Option R :=
  VV.rec (motive_1 := fun _ => Option R) (motive_2 := fun _ => Unit) none (fun _ => none) (fun _ _ => none) (fun _ => none) (fun p => Option.rec none k p) (fun _ _ _ => none) (fun _ _ _ => none) none (fun _ _ => none) (fun _ _ => none) (fun _ => none) none (fun _ => none) (fun _ _ _ => none) () (fun _ _ _ _ => ()) v
noncomputable def intOf (v : VV) (k : IntKind → Int → Option R) : Option R :=
  VV.rec (motive_1 := fun _ => Option R) (motive_2 := fun _ => Unit) none (fun _ => none) (fun a b => k a b) (fun _ => none) (fun _ => none) (fun _ _ _ => none) (fun _ _ _ => none) none (fun _ _ => none) (fun _ _ => none) (fun _ => none) none (fun _ => none) (fun _ _ _ => none) () (fun _ _ _ _ => ()) v
noncomputable def rowOf (b : Blk) (k : TypeId → Mode → List (List VV) → Option R) : Option R := Blk.rec none k (fun _ => none) b
noncomputable def ldK (g : Gt) (p : PA) (k : VV → Option R) : Option R :=
  PA.rec (fun b i o => obK (g b) fun x => rowOf x fun _ _ es => nthK es i fun e => nthK e o k) p
noncomputable def kindN (k : IntKind) : Nat := IntKind.rec 0 1 2 3 4 5 6 7 k
noncomputable def wrapI (k : IntKind) (x : Int) (f : Int → R) : R := intK (wrapK k x) f
noncomputable def iarK (op : BinOp) : IntKind → Int → Int → (VV → Option R) → Option R :=
  match op with
  | .add => fun k x y f => wrapI k (iadd x y) fun z => f (.int k z)
  | .sub => fun k x y f => wrapI k (iadd x (ineg y)) fun z => f (.int k z)
  | .eql => fun k x y f => Bool.rec (f (.bool false)) (f (.bool true)) (ieq x y)
  | .neq => fun k x y f => Bool.rec (f (.bool true)) (f (.bool false)) (ieq x y)
  | .lss => fun k x y f => Bool.rec (f (.bool false)) (f (.bool true)) (ilt x y)
  | .leq => fun k x y f => Bool.rec (f (.bool true)) (f (.bool false)) (ilt y x)
  | .gtr => fun k x y f => Bool.rec (f (.bool false)) (f (.bool true)) (ilt y x)
  | .geq => fun k x y f => Bool.rec (f (.bool true)) (f (.bool false)) (ilt x y)
  | op => fun k x y f => obK (iarith op k x y) fun v => vvK v f
noncomputable def slOf (v : VV) (k : Option PA → Nat → Nat → Option R) : Option R :=
  VV.rec (motive_1 := fun _ => Option R) (motive_2 := fun _ => Unit) none (fun _ => none) (fun _ _ => none) (fun _ => none) (fun p => none) k (fun _ _ _ => none) none (fun _ _ => none) (fun _ _ => none) (fun _ => none) none (fun _ => none) (fun _ _ _ => none) () (fun _ _ _ _ => ()) v
noncomputable def aggOfV (v : VV) (k : List VV → Option R) : Option R :=
  VV.rec (motive_1 := fun _ => Option R) (motive_2 := fun _ => Unit) none (fun _ => none) (fun _ _ => none) (fun _ => none) (fun p => none) (fun _ _ _ => none) (fun _ _ _ => none) none (fun l _ => k l) (fun _ _ => none) (fun _ => none) none (fun _ => none) (fun _ _ _ => none) () (fun _ _ _ _ => ()) v
noncomputable def tupOf (v : VV) (k : List VV → Option R) : Option R :=
  VV.rec (motive_1 := fun _ => Option R) (motive_2 := fun _ => Unit) none (fun _ => none) (fun _ _ => none) (fun _ => none) (fun p => none) (fun _ _ _ => none) (fun _ _ _ => none) none (fun _ _ => none) (fun l _ => k l) (fun _ => none) none (fun _ => none) (fun _ _ _ => none) () (fun _ _ _ _ => ()) v
noncomputable def boolOf (v : VV) (k : Bool → Option R) : Option R :=
  VV.rec (motive_1 := fun _ => Option R) (motive_2 := fun _ => Unit) none k (fun _ _ => none) (fun _ => none) (fun p => none) (fun _ _ _ => none) (fun _ _ _ => none) none (fun l _ => none) (fun _ _ => none) (fun _ => none) none (fun _ => none) (fun _ _ _ => none) () (fun _ _ _ _ => ()) v
/-- the first so many of what stands behind a place -/
noncomputable def takeK (l : List VV) : Nat → (List VV → Option R) → Option R :=
  List.rec (motive := fun _ => Nat → (List VV → Option R) → Option R) (fun n k => Nat.rec (k []) (fun _ _ => none) n) (fun x _ ih n k => Nat.rec (k []) (fun m _ => ih m fun l => k (x :: l)) n) l
noncomputable def partK (l : List VV) : Nat → Nat → (List VV → Option R) → Option R :=
  List.rec (motive := fun _ => Nat → Nat → (List VV → Option R) → Option R) (fun o n k => Nat.rec (takeK [] n k) (fun _ _ => none) o) (fun x r ih o n k => Nat.rec (takeK (x :: r) n k) (fun m _ => ih m n k) o) l
noncomputable def ldsK (g : Gt) (p : PA) (n : Nat) (k : List VV → Option R) : Option R :=
  PA.rec (fun b i o => obK (g b) fun x => rowOf x fun _ _ es => nthK es i fun e => partK e o n k) p
noncomputable def ixpK (g : Gt) (p : PA) (k s : Nat) (f : PA → Option R) : Option R :=
  PA.rec (fun b i o => obK (g b) fun x => rowOf x fun _ _ es => List.rec none (fun e _ _ => Bool.rec (natK (Nat.add o (Nat.mul k s)) fun o => f ⟨b, i, o⟩) (natK (Nat.add i k) fun i => f ⟨b, i, 0⟩) (and (Nat.beq o 0) (Nat.beq e.length s))) es) p
noncomputable def nilckK (v : VV) (k : VV → Option R) : Option R :=
  VV.rec (motive_1 := fun _ => Option R) (motive_2 := fun _ => Unit) none (fun _ => none) (fun a b => none) (fun _ => none) (fun p => Option.rec none (fun p => k (.ptr (some p))) p) (fun _ _ _ => none) (fun f l _ => k (.fn f l)) none (fun _ _ => none) (fun _ _ => none) (fun _ => none) none (fun b => k (.yield b)) (fun t v _ => k (.ifc t v)) () (fun _ _ _ _ => ()) v
noncomputable def rd_mv : Od → Fr → Gt → (VV → Option R) → Option R := fun x E g k => odK x E k
noncomputable def rd_pick : Od → Od → Od → Fr → Gt → (VV → Option R) → Option R := fun c a b E g k => odK c E fun u => boolOf u fun t => Bool.rec (odK b E k) (odK a E k) t
noncomputable def rd_load : Nat → Bool → Od → Fr → Gt → (VV → Option R) → Option R := fun n ag x E g k => odK x E fun v => ptrOf v fun p => Bool.rec (ldK g p k) (ldsK g p n fun l => k (.agg l)) ag
noncomputable def rd_nilck : Od → Fr → Gt → (VV → Option R) → Option R := fun x E g k => odK x E fun v => nilckK v k
noncomputable def rd_bin : BinOp → Od → Od → Fr → Gt → (VV → Option R) → Option R := fun op x y E g k => odK x E fun u => odK y E fun v => intOf u fun a m => intOf v fun b n => Bool.rec none (iarK op a m n k) (Nat.beq (kindN a) (kindN b))
noncomputable def rd_sh : Bool → Od → Od → Fr → Gt → (VV → Option R) → Option R := fun a0 a1 a2 E g k => obK (VOp.evF (.sh a0 a1 a2) E g) fun v => vvK v k
noncomputable def rd_beq : Bool → Od → Od → Fr → Gt → (VV → Option R) → Option R := fun a0 a1 a2 E g k => obK (VOp.evF (.beq a0 a1 a2) E g) fun v => vvK v k
noncomputable def rd_not : Od → Fr → Gt → (VV → Option R) → Option R := fun x E g k => odK x E fun v => boolOf v fun b => Bool.rec (k (.bool true)) (k (.bool false)) b
noncomputable def rd_conv : IntKind → Od → Fr → Gt → (VV → Option R) → Option R := fun t x E g k => odK x E fun v => intOf v fun _ n => intK (wrapK t n) fun z => k (.int t z)
noncomputable def rd_mkfn : FuncId → List Od → Fr → Gt → (VV → Option R) → Option R := fun a0 a1 E g k => obK (VOp.evF (.mkfn a0 a1) E g) fun v => vvK v k
noncomputable def rd_faddr : Nat → Od → Fr → Gt → (VV → Option R) → Option R := fun off x E g k => odK x E fun v => ptrOf v fun p => PA.rec (fun b i o => natK (Nat.add o off) fun o => k (.ptr (some ⟨b, i, o⟩))) p
noncomputable def rd_fld : Nat → Nat → Bool → Od → Fr → Gt → (VV → Option R) → Option R := fun off n ag x E g k => odK x E fun v => aggOfV v fun l => Bool.rec (nthK l off k) (partK l off n fun l => k (.agg l)) ag
noncomputable def rd_ixa : Nat → Od → Od → Fr → Gt → (VV → Option R) → Option R := fun esz x i E g k => odK x E fun u => odK i E fun v => slOf u fun p m _ => intOf v fun _ n => Option.rec none (fun p => Bool.rec none (ixpK g p n.toNat esz fun q => k (.ptr (some q))) (inRng n m)) p
noncomputable def rd_ixar : Nat → Nat → Od → Od → Fr → Gt → (VV → Option R) → Option R := fun a0 a1 a2 a3 E g k => obK (VOp.evF (.ixar a0 a1 a2 a3) E g) fun v => vvK v k
noncomputable def rd_lens : Od → Fr → Gt → (VV → Option R) → Option R := fun x E g k => odK x E fun v => slOf v fun _ m _ => k (.int .i64 (.ofNat m))
noncomputable def rd_lent : Od → Fr → Gt → (VV → Option R) → Option R := fun a0 E g k => obK (VOp.evF (.lent a0) E g) fun v => vvK v k
noncomputable def rd_lenm : Od → Fr → Gt → (VV → Option R) → Option R := fun a0 E g k => obK (VOp.evF (.lenm a0) E g) fun v => vvK v k
noncomputable def rd_min2 : Od → Od → Fr → Gt → (VV → Option R) → Option R := fun a0 a1 E g k => obK (VOp.evF (.min2 a0 a1) E g) fun v => vvK v k
noncomputable def rd_max2 : Od → Od → Fr → Gt → (VV → Option R) → Option R := fun a0 a1 E g k => obK (VOp.evF (.max2 a0 a1) E g) fun v => vvK v k
noncomputable def rd_ext : Nat → Od → Fr → Gt → (VV → Option R) → Option R := fun i x E g k => odK x E fun v => tupOf v fun l => nthK l i k
noncomputable def rd_build : List VV → List (Nat × Nat × Od) → Fr → Gt → (VV → Option R) → Option R := fun a0 a1 E g k => obK (VOp.evF (.build a0 a1) E g) fun v => vvK v k
noncomputable def rd_slc : Nat → Od → Option Od → Option Od → Option Od → Fr → Gt → (VV → Option R) → Option R := fun a0 a1 a2 a3 a4 E g k => obK (VOp.evF (.slc a0 a1 a2 a3 a4) E g) fun v => vvK v k
noncomputable def rd_slstr : Od → Option Od → Option Od → Fr → Gt → (VV → Option R) → Option R := fun a0 a1 a2 E g k => obK (VOp.evF (.slstr a0 a1 a2) E g) fun v => vvK v k
noncomputable def rd_ixs : Od → Od → Fr → Gt → (VV → Option R) → Option R := fun a0 a1 E g k => obK (VOp.evF (.ixs a0 a1) E g) fun v => vvK v k
noncomputable def rd_aeq : Bool → List Nat → Od → Od → Fr → Gt → (VV → Option R) → Option R := fun a0 a1 a2 a3 E g k => obK (VOp.evF (.aeq a0 a1 a2 a3) E g) fun v => vvK v k
noncomputable def rd_lkp : KK → VV → Bool → Od → Od → Fr → Gt → (VV → Option R) → Option R := fun a0 a1 a2 a3 a4 E g k => obK (VOp.evF (.lkp a0 a1 a2 a3 a4) E g) fun v => vvK v k
noncomputable def rd_ent : Od → Fr → Gt → (VV → Option R) → Option R := fun a0 E g k => obK (VOp.evF (.ent a0) E g) fun v => vvK v k
noncomputable def rd_neq : Nat → Bool → Od → Od → Fr → Gt → (VV → Option R) → Option R := fun a0 a1 a2 a3 E g k => obK (VOp.evF (.neq a0 a1 a2 a3) E g) fun v => vvK v k
noncomputable def rd_seq : BinOp → Od → Od → Fr → Gt → (VV → Option R) → Option R := fun a0 a1 a2 E g k => obK (VOp.evF (.seq a0 a1 a2) E g) fun v => vvK v k
noncomputable def rd_neg : Od → Fr → Gt → (VV → Option R) → Option R := fun a0 E g k => obK (VOp.evF (.neg a0) E g) fun v => vvK v k
noncomputable def rd_chr : Od → Fr → Gt → (VV → Option R) → Option R := fun a0 E g k => obK (VOp.evF (.chr a0) E g) fun v => vvK v k
noncomputable def rd_bstr : Od → Fr → Gt → (VV → Option R) → Option R := fun a0 E g k => obK (VOp.evF (.bstr a0) E g) fun v => vvK v k
noncomputable def rd_ixb : Od → Od → Fr → Gt → (VV → Option R) → Option R := fun a0 a1 E g k => obK (VOp.evF (.ixb a0 a1) E g) fun v => vvK v k
noncomputable def rd_mki : TypeId → Od → Fr → Gt → (VV → Option R) → Option R := fun t x E g k => odK x E fun v => k (.ifc t v)
noncomputable def rd_capm : Od → Fr → Gt → (VV → Option R) → Option R := fun a0 E g k => obK (VOp.evF (.capm a0) E g) fun v => vvK v k
noncomputable def rd_s2a : Nat → Od → Fr → Gt → (VV → Option R) → Option R := fun a0 a1 E g k => obK (VOp.evF (.s2a a0 a1) E g) fun v => vvK v k
noncomputable def rd_lda : Nat → Od → Fr → Gt → (VV → Option R) → Option R := fun a0 a1 E g k => obK (VOp.evF (.lda a0 a1) E g) fun v => vvK v k
noncomputable def rdK : VOp → Fr → Gt → (VV → Option R) → Option R :=
  VOp.rec (motive := fun _ => Fr → Gt → (VV → Option R) → Option R) rd_mv rd_pick rd_load rd_nilck rd_bin rd_sh rd_beq rd_not rd_conv rd_mkfn rd_faddr rd_fld rd_ixa rd_ixar rd_lens rd_lent rd_lenm rd_min2 rd_max2 rd_ext rd_build rd_slc rd_slstr rd_ixs rd_aeq rd_lkp rd_ent rd_neq rd_seq rd_neg rd_chr rd_bstr rd_ixb rd_mki rd_capm rd_s2a rd_lda
noncomputable def updK (e : List VV) (off : Nat) (cs : List VV) : (List VV → R) → R :=
  List.rec (motive := fun _ => List VV → Nat → (List VV → R) → R) (fun e _ k => k e) (fun c _ ih e off k => setK e off c fun e => natK (Nat.succ off) fun off => ih e off k) cs e off
noncomputable def modeRo (md : Mode) : Bool := Mode.rec true false false md
noncomputable def defdB (u : VV) : Bool := VV.rec (motive_1 := fun _ => Bool) (motive_2 := fun _ => Unit) false (fun _ => true) (fun _ _ => true) (fun _ => true) (fun _ => true) (fun _ _ _ => true) (fun _ _ _ => true) true (fun _ _ => true) (fun _ _ => true) (fun _ => true) true (fun _ => true) (fun _ _ _ => true) () (fun _ _ _ _ => ()) u
noncomputable def cellB (u : VV) : Bool := VV.rec (motive_1 := fun _ => Bool) (motive_2 := fun _ => Unit) false (fun _ => true) (fun _ _ => true) (fun _ => true) (fun _ => true) (fun _ _ _ => true) (fun _ _ _ => true) true (fun _ _ => false) (fun _ _ => false) (fun _ => true) true (fun _ => true) (fun _ _ _ => true) () (fun _ _ _ _ => ()) u
noncomputable def lenN {α : Type} (l : List α) : Nat := List.rec (motive := fun _ => Nat) 0 (fun _ _ ih => Nat.succ ih) l
noncomputable def allCell (l : List VV) : Bool := List.rec (motive := fun _ => Bool) true (fun x _ ih => Bool.rec false ih (cellB x)) l
noncomputable def storeOk (u : VV) (m : Nat) (md : Mode) (o : Nat) (e : List VV) : Bool :=
  Bool.rec false (Bool.rec false (Bool.rec (Bool.rec false (allCell u.cells) (Nat.ble (Nat.add o (lenN u.cells)) (lenN e))) false (modeRo md)) (Nat.beq (lenN u.cells) m)) (defdB u)
noncomputable def boxOk (u : VV) : Bool := Bool.rec false (allCell u.cells) (defdB u)
noncomputable def ef_store : Nat → Od → Od → Fr → Gt → Nat → (VV → Up → Option R) → Option R := fun m x v E g n k => odK x E fun p => odK v E fun u => ptrOf p fun p => PA.rec (fun b i o => obK (g b) fun bl => rowOf bl fun t md es => nthK es i fun e =>
      Bool.rec none (updK e o u.cells fun e' => setK es i e' fun es' => k .undef [(b, .row t md es')]) (storeOk u m md o e)) p
noncomputable def ef_alloc : TypeId → List VV → Fr → Gt → Nat → (VV → Up → Option R) → Option R := fun t zs E g n k => k (.ptr (some ⟨n, 0, 0⟩)) [(n, .row t .own [zs])]
noncomputable def ef_box : TypeId → Od → Fr → Gt → Nat → (VV → Up → Option R) → Option R := fun t x E g n k => odK x E fun u => Bool.rec none (k (.ptr (some ⟨n, 0, 0⟩)) [(n, .row t .own [u.cells])]) (boxOk u)
noncomputable def ef_mkrow : TypeId → List VV → Nat → List (Nat × Od) → Fr → Gt → Nat → (VV → Up → Option R) → Option R := fun a0 a1 a2 a3 E g n k => obK (VEf.evF (.mkrow a0 a1 a2 a3) E g n) fun r => Prod.rec (fun v us => vvK v fun v => upsK us fun us => k v us) r
noncomputable def ef_mksl : TypeId → Nat → List VV → Od → Od → Fr → Gt → Nat → (VV → Up → Option R) → Option R := fun a0 a1 a2 a3 a4 E g n k => obK (VEf.evF (.mksl a0 a1 a2 a3 a4) E g n) fun r => Prod.rec (fun v us => vvK v fun v => upsK us fun us => k v us) r
noncomputable def ef_app : TypeId → Nat → Nat → Od → Od → Fr → Gt → Nat → (VV → Up → Option R) → Option R := fun a0 a1 a2 a3 a4 E g n k => obK (VEf.evF (.app a0 a1 a2 a3 a4) E g n) fun r => Prod.rec (fun v us => vvK v fun v => upsK us fun us => k v us) r
noncomputable def ef_mkmap : Fr → Gt → Nat → (VV → Up → Option R) → Option R := fun E g n k => k (.map (some n)) [(n, .obj (.map []))]
noncomputable def ef_mset : KK → Od → Od → Od → Fr → Gt → Nat → (VV → Up → Option R) → Option R := fun a0 a1 a2 a3 E g n k => obK (VEf.evF (.mset a0 a1 a2 a3) E g n) fun r => Prod.rec (fun v us => vvK v fun v => upsK us fun us => k v us) r
noncomputable def ef_rng : Od → Fr → Gt → Nat → (VV → Up → Option R) → Option R := fun a0 E g n k => obK (VEf.evF (.rng a0) E g n) fun r => Prod.rec (fun v us => vvK v fun v => upsK us fun us => k v us) r
noncomputable def ef_copy : Nat → Od → Od → Fr → Gt → Nat → (VV → Up → Option R) → Option R := fun a0 a1 a2 E g n k => obK (VEf.evF (.copy a0 a1 a2) E g n) fun r => Prod.rec (fun v us => vvK v fun v => upsK us fun us => k v us) r
noncomputable def ef_ment : KK → VV → Od → Od → Fr → Gt → Nat → (VV → Up → Option R) → Option R := fun a0 a1 a2 a3 E g n k => obK (VEf.evF (.ment a0 a1 a2 a3) E g n) fun r => Prod.rec (fun v us => vvK v fun v => upsK us fun us => k v us) r
noncomputable def ef_mput : Od → Od → Od → Fr → Gt → Nat → (VV → Up → Option R) → Option R := fun a0 a1 a2 E g n k => obK (VEf.evF (.mput a0 a1 a2) E g n) fun r => Prod.rec (fun v us => vvK v fun v => upsK us fun us => k v us) r
noncomputable def ef_srng : Od → Fr → Gt → Nat → (VV → Up → Option R) → Option R := fun a0 E g n k => obK (VEf.evF (.srng a0) E g n) fun r => Prod.rec (fun v us => vvK v fun v => upsK us fun us => k v us) r
noncomputable def ef_snext : Od → Fr → Gt → Nat → (VV → Up → Option R) → Option R := fun a0 E g n k => obK (VEf.evF (.snext a0) E g n) fun r => Prod.rec (fun v us => vvK v fun v => upsK us fun us => k v us) r
noncomputable def ef_ustr : TypeId → Od → Od → Fr → Gt → Nat → (VV → Up → Option R) → Option R := fun a0 a1 a2 E g n k => obK (VEf.evF (.ustr a0 a1 a2) E g n) fun r => Prod.rec (fun v us => vvK v fun v => upsK us fun us => k v us) r
noncomputable def ef_appz : TypeId → List VV → Nat → Od → Od → Fr → Gt → Nat → (VV → Up → Option R) → Option R := fun a0 a1 a2 a3 a4 E g n k => obK (VEf.evF (.appz a0 a1 a2 a3 a4) E g n) fun r => Prod.rec (fun v us => vvK v fun v => upsK us fun us => k v us) r
noncomputable def ef_resl : Nat → Od → Fr → Gt → Nat → (VV → Up → Option R) → Option R := fun a0 a1 E g n k => obK (VEf.evF (.resl a0 a1) E g n) fun r => Prod.rec (fun v us => vvK v fun v => upsK us fun us => k v us) r
noncomputable def ef_sbytes : Od → Fr → Gt → Nat → (VV → Up → Option R) → Option R := fun a0 E g n k => obK (VEf.evF (.sbytes a0) E g n) fun r => Prod.rec (fun v us => vvK v fun v => upsK us fun us => k v us) r
noncomputable def efK : VEf → Fr → Gt → Nat → (VV → Up → Option R) → Option R :=
  VEf.rec (motive := fun _ => Fr → Gt → Nat → (VV → Up → Option R) → Option R) ef_store ef_alloc ef_box ef_mkrow ef_mksl ef_app ef_mkmap ef_mset ef_rng ef_copy ef_ment ef_mput ef_srng ef_snext ef_ustr ef_appz ef_resl ef_sbytes


theorem ptrOf_some {v : VV} {k : PA → Option R} {a : R} (h : ptrOf v k = some a) : ∃ p, v = .ptr (some p) ∧ k p = some a := by
  cases v with
  | ptr p => cases p with
    | none => cases h
    | some p => exact ⟨p, rfl, h⟩
  | _ => cases h
theorem intOf_some {v : VV} {k : IntKind → Int → Option R} {a : R} (h : intOf v k = some a) : ∃ t n, v = .int t n ∧ k t n = some a := by
  cases v with
  | int t n => exact ⟨t, n, rfl, h⟩
  | _ => cases h
theorem slOf_some {v : VV} {k : Option PA → Nat → Nat → Option R} {a : R} (h : slOf v k = some a) : ∃ p m c, v = .sl p m c ∧ k p m c = some a := by
  cases v with
  | sl p m c => exact ⟨p, m, c, rfl, h⟩
  | _ => cases h
theorem aggOfV_some {v : VV} {k : List VV → Option R} {a : R} (h : aggOfV v k = some a) : ∃ l, v = .agg l ∧ k l = some a := by
  cases v with
  | agg l => exact ⟨l, rfl, h⟩
  | _ => cases h
theorem tupOf_some {v : VV} {k : List VV → Option R} {a : R} (h : tupOf v k = some a) : ∃ l, v = .tup l ∧ k l = some a := by
  cases v with
  | tup l => exact ⟨l, rfl, h⟩
  | _ => cases h
theorem boolOf_some {v : VV} {k : Bool → Option R} {a : R} (h : boolOf v k = some a) : ∃ b, v = .bool b ∧ k b = some a := by
  cases v with
  | bool b => exact ⟨b, rfl, h⟩
  | _ => cases h
theorem rowOf_some {b : Blk} {k : TypeId → Mode → List (List VV) → Option R} {a : R} (h : rowOf b k = some a) : ∃ t m es, b = .row t m es ∧ k t m es = some a := by
  cases b with
  | row t m es => exact ⟨t, m, es, rfl, h⟩
  | _ => cases h
theorem nilckK_some {v : VV} {k : VV → Option R} {a : R} (h : nilckK v k = some a) : k v = some a ∧ ((∃ p, v = .ptr (some p)) ∨ (∃ f l, v = .fn f l) ∨ (∃ b, v = .yield b) ∨ ∃ t u, v = .ifc t u) := by
  cases v with
  | ptr p => cases p with
    | none => cases h
    | some p => exact ⟨h, .inl ⟨p, rfl⟩⟩
  | fn f l => exact ⟨h, .inr (.inl ⟨f, l, rfl⟩)⟩
  | yield b => exact ⟨h, .inr (.inr (.inl ⟨b, rfl⟩))⟩
  | ifc t u => exact ⟨h, .inr (.inr (.inr ⟨t, u, rfl⟩))⟩
  | _ => cases h
theorem ldK_some {g : Gt} {p : PA} {k : VV → Option R} {a : R} (h : ldK g p k = some a) : ∃ v, ld g p = some v ∧ k v = some a := by
  obtain ⟨b, i, o⟩ := p
  obtain ⟨x, h1, h2⟩ := obK_some (show obK (g b) _ = some a from h)
  obtain ⟨t, m, es, rfl, h3⟩ := rowOf_some h2
  obtain ⟨e, h4, h5⟩ := nthK_some h3
  obtain ⟨v, h6, h7⟩ := nthK_some h5
  exact ⟨v, by simp [ld, h1, h4, h6], h7⟩
theorem takeK_some : ∀ {l : List VV} {n : Nat} {k : List VV → Option R} {a : R}, takeK l n k = some a → n ≤ l.length ∧ k (l.take n) = some a
  | [], 0, k, a, h => ⟨by simp, h⟩
  | [], n + 1, k, a, h => by cases h
  | x :: l, 0, k, a, h => ⟨by simp, h⟩
  | x :: l, n + 1, k, a, h => by
    obtain ⟨h1, h2⟩ := takeK_some (show takeK l n (fun l => k (x :: l)) = some a from h)
    exact ⟨by simp; omega, h2⟩
theorem partK_some : ∀ {l : List VV} {o n : Nat} {k : List VV → Option R} {a : R}, partK l o n k = some a → o + n ≤ l.length ∧ k ((l.drop o).take n) = some a
  | [], 0, n, k, a, h => by
    obtain ⟨h1, h2⟩ := takeK_some (show takeK [] n k = some a from h)
    exact ⟨by omega, h2⟩
  | [], o + 1, n, k, a, h => by cases h
  | x :: l, 0, n, k, a, h => by
    obtain ⟨h1, h2⟩ := takeK_some (show takeK (x :: l) n k = some a from h)
    exact ⟨by omega, h2⟩
  | x :: l, o + 1, n, k, a, h => by
    obtain ⟨h1, h2⟩ := partK_some (show partK l o n k = some a from h)
    exact ⟨by simp; omega, h2⟩
theorem ldsK_some {g : Gt} {p : PA} {n : Nat} {k : List VV → Option R} {a : R} (h : ldsK g p n k = some a) : ∃ l, lds g p n = some l ∧ k l = some a := by
  obtain ⟨b, i, o⟩ := p
  obtain ⟨x, h1, h2⟩ := obK_some (show obK (g b) _ = some a from h)
  obtain ⟨t, m, es, rfl, h3⟩ := rowOf_some h2
  obtain ⟨e, h4, h5⟩ := nthK_some h3
  obtain ⟨h6, h7⟩ := partK_some h5
  exact ⟨_, by simp [lds, h1, h4, h6], h7⟩
theorem ixpK_some {g : Gt} {p : PA} {k s : Nat} {f : PA → Option R} {a : R} (h : ixpK g p k s f = some a) : ∃ q, ixp g p k s = some q ∧ f q = some a := by
  obtain ⟨b, i, o⟩ := p
  obtain ⟨x, h1, h2⟩ := obK_some (show obK (g b) _ = some a from h)
  obtain ⟨t, m, es, rfl, h3⟩ := rowOf_some h2
  cases es with
  | nil => cases h3
  | cons e es =>
    have h4 : Bool.rec (motive := fun _ => Option R) (natK (Nat.add o (Nat.mul k s)) fun o => f ⟨b, i, o⟩) (natK (Nat.add i k) fun i => f ⟨b, i, 0⟩) (and (Nat.beq o 0) (Nat.beq e.length s)) = some a := h3
    by_cases hc : o = 0 ∧ e.length = s
    · have : and (Nat.beq o 0) (Nat.beq e.length s) = true := by rw [beq_of hc.1, beq_of hc.2]; rfl
      rw [this] at h4
      simp only [natK_eq] at h4
      exact ⟨_, by simp [ixp, eszOf, h1, padd, hc.1, hc.2], h4⟩
    · have : and (Nat.beq o 0) (Nat.beq e.length s) = false := by
        by_cases h0 : o = 0
        · rw [beq_of h0, beq_of_ne (fun h => hc ⟨h0, h⟩)]; rfl
        · rw [beq_of_ne h0]; rfl
      rw [this] at h4
      simp only [natK_eq] at h4
      exact ⟨_, by simp only [ixp, eszOf, h1, padd]; rw [if_neg hc]; rfl, h4⟩
theorem kindN_inj {a b : IntKind} (h : Nat.beq (kindN a) (kindN b) = true) : a = b := by
  cases a <;> cases b <;> first | rfl | cases h
theorem brec_some {b : Bool} {x : Option R} {a : R} (h : Bool.rec (motive := fun _ => Option R) none x b = some a) : b = true ∧ x = some a := by
  cases b with
  | false => cases h
  | true => exact ⟨rfl, h⟩
theorem brec2 {b : Bool} {f : VV → Option R} {a : R} (h : Bool.rec (motive := fun _ => Option R) (f (.bool false)) (f (.bool true)) b = some a) : f (.bool b) = some a := by
  cases b <;> exact h
theorem brec3 {b : Bool} {f : VV → Option R} {a : R} (h : Bool.rec (motive := fun _ => Option R) (f (.bool true)) (f (.bool false)) b = some a) : f (.bool !b) = some a := by
  cases b <;> exact h
theorem wrapI_eq {k : IntKind} {x : Int} {f : Int → R} : wrapI k x f = f (wrapK k x) := intK_eq _ _
theorem iarK_some {op : BinOp} {t : IntKind} {x y : Int} {f : VV → Option R} {a : R} (h : iarK op t x y f = some a) : ∃ v, iarith op t x y = some v ∧ f v = some a := by
  have gen : obK (iarith op t x y) (fun v => vvK v f) = some a → ∃ v, iarith op t x y = some v ∧ f v = some a := fun h => by
    obtain ⟨v, h1, h2⟩ := obK_some h
    exact ⟨v, h1, by simpa using h2⟩
  cases op with
  | add => exact ⟨_, rfl, by rw [← wrapI_eq (f := fun z => f (.int t z))]; exact h⟩
  | sub => exact ⟨_, rfl, by rw [← wrapI_eq (f := fun z => f (.int t z))]; exact h⟩
  | eql => exact ⟨_, rfl, brec2 h⟩
  | neq => exact ⟨_, rfl, brec3 h⟩
  | lss => exact ⟨_, rfl, brec2 h⟩
  | leq => exact ⟨_, rfl, brec3 h⟩
  | gtr => exact ⟨_, rfl, brec2 h⟩
  | geq => exact ⟨_, rfl, brec3 h⟩
  | _ => exact gen h
theorem ev_simple {y : VOp} {E : Fr} {g : Gt} {k : VV → Option R} {a : R} (h : obK (VOp.evF y E g) (fun v => vvK v k) = some a) : ∃ v, y.ev E g = some v ∧ k v = some a := by
  obtain ⟨v, h1, h2⟩ := obK_some h
  rw [VOp.evF_eq] at h1
  exact ⟨v, h1, by simpa using h2⟩
theorem rdK_some {y : VOp} {E : Fr} {g : Gt} {k : VV → Option R} {a : R} (h : rdK y E g k = some a) : ∃ v, y.ev E g = some v ∧ k v = some a := by
  cases y with
  | mv x => exact odK_some h
  | pick c x y =>
    obtain ⟨u, h1, h2⟩ := odK_some (show odK c E _ = some a from h)
    obtain ⟨b, rfl, h3⟩ := boolOf_some h2
    cases b with
    | true => obtain ⟨v, h4, h5⟩ := odK_some (show odK x E k = some a from h3); exact ⟨v, by simp [VOp.ev, h1, h4], h5⟩
    | false => obtain ⟨v, h4, h5⟩ := odK_some (show odK y E k = some a from h3); exact ⟨v, by simp [VOp.ev, h1, h4], h5⟩
  | load n ag x =>
    obtain ⟨u, h1, h2⟩ := odK_some (show odK x E _ = some a from h)
    obtain ⟨p, rfl, h3⟩ := ptrOf_some h2
    cases ag with
    | true => obtain ⟨l, h4, h5⟩ := ldsK_some (show ldsK g p n _ = some a from h3); exact ⟨_, by simp [VOp.ev, h1, h4], h5⟩
    | false => obtain ⟨v, h4, h5⟩ := ldK_some (show ldK g p k = some a from h3); exact ⟨v, by simp [VOp.ev, h1, h4], h5⟩
  | nilck x =>
    obtain ⟨u, h1, h2⟩ := odK_some (show odK x E _ = some a from h)
    obtain ⟨h3, h4⟩ := nilckK_some h2
    refine ⟨u, ?_, h3⟩
    rcases h4 with ⟨p, rfl⟩ | ⟨f, l, rfl⟩ | ⟨b, rfl⟩ | ⟨t, u, rfl⟩ <;> simp [VOp.ev, h1]
  | bin op x y =>
    obtain ⟨u, h1, h2⟩ := odK_some (show odK x E _ = some a from h)
    obtain ⟨v, h3, h4⟩ := odK_some h2
    obtain ⟨s, m, rfl, h5⟩ := intOf_some h4
    obtain ⟨t, n, rfl, h6⟩ := intOf_some h5
    obtain ⟨h7, h8⟩ := brec_some h6
    cases kindN_inj h7
    obtain ⟨z, h9, h10⟩ := iarK_some h8
    exact ⟨z, by simp [VOp.ev, h1, h3, Wm.bin, h9], h10⟩
  | not x =>
    obtain ⟨u, h1, h2⟩ := odK_some (show odK x E _ = some a from h)
    obtain ⟨b, rfl, h3⟩ := boolOf_some h2
    exact ⟨.bool !b, by simp [VOp.ev, h1], brec3 h3⟩
  | conv t x =>
    obtain ⟨u, h1, h2⟩ := odK_some (show odK x E _ = some a from h)
    obtain ⟨s, n, rfl, h3⟩ := intOf_some h2
    rw [intK_eq] at h3
    exact ⟨_, by simp [VOp.ev, h1], h3⟩
  | faddr off x =>
    obtain ⟨u, h1, h2⟩ := odK_some (show odK x E _ = some a from h)
    obtain ⟨⟨b, i, o⟩, rfl, h3⟩ := ptrOf_some h2
    have h3 : natK (Nat.add o off) (fun o => k (.ptr (some ⟨b, i, o⟩))) = some a := h3
    rw [natK_eq] at h3
    exact ⟨_, by simp [VOp.ev, h1], h3⟩
  | fld off n ag x =>
    obtain ⟨u, h1, h2⟩ := odK_some (show odK x E _ = some a from h)
    obtain ⟨l, rfl, h3⟩ := aggOfV_some h2
    cases ag with
    | true => obtain ⟨h4, h5⟩ := partK_some (show partK l off n _ = some a from h3); exact ⟨_, by simp [VOp.ev, h1, partOf, h4], h5⟩
    | false => obtain ⟨v, h4, h5⟩ := nthK_some (show nthK l off k = some a from h3); exact ⟨v, by simp [VOp.ev, h1, partOf, h4], h5⟩
  | ixa esz x i =>
    obtain ⟨u, h1, h2⟩ := odK_some (show odK x E _ = some a from h)
    obtain ⟨v, h3, h4⟩ := odK_some h2
    obtain ⟨p, m, c, rfl, h5⟩ := slOf_some h4
    obtain ⟨t, n, rfl, h6⟩ := intOf_some h5
    cases p with
    | none => cases h6
    | some p =>
      obtain ⟨h7, h8⟩ := brec_some h6
      obtain ⟨q, h9, h10⟩ := ixpK_some h8
      exact ⟨_, by simp [VOp.ev, h1, h3, h7, h9], h10⟩
  | lens x =>
    obtain ⟨u, h1, h2⟩ := odK_some (show odK x E _ = some a from h)
    obtain ⟨p, m, c, rfl, h3⟩ := slOf_some h2
    exact ⟨_, by simp [VOp.ev, h1], h3⟩
  | ext i x =>
    obtain ⟨u, h1, h2⟩ := odK_some (show odK x E _ = some a from h)
    obtain ⟨l, rfl, h3⟩ := tupOf_some h2
    obtain ⟨v, h4, h5⟩ := nthK_some h3
    exact ⟨v, by simp [VOp.ev, h1, h4], h5⟩
  | mki t x =>
    obtain ⟨u, h1, h2⟩ := odK_some (show odK x E (fun v => k (.ifc t v)) = some a from h)
    exact ⟨_, by simp [VOp.ev, h1], h2⟩
  | _ => exact ev_simple h

theorem ef_simple {y : VEf} {E : Fr} {g : Gt} {n : Nat} {k : VV → Up → Option R} {a : R} (h : obK (VEf.evF y E g n) (fun r => Prod.rec (fun v us => vvK v fun v => upsK us fun us => k v us) r) = some a) : ∃ v us, y.ev E g n = some (v, us) ∧ k v us = some a := by
  obtain ⟨⟨v, us⟩, h1, h2⟩ := obK_some h
  rw [VEf.evF_eq] at h1
  exact ⟨v, us, h1, by simpa using h2⟩
theorem updK_eq : ∀ (cs e : List VV) (off : Nat) (k : List VV → R), updK e off cs k = k (upd e off cs)
  | [], e, off, k => rfl
  | c :: cs, e, off, k => by
    show setK e off c (fun e => natK (Nat.succ off) fun off => updK e off cs k) = _
    rw [setK_eq, natK_eq, updK_eq]; rfl
theorem lenN_eq {α : Type} : ∀ l : List α, lenN l = l.length
  | [] => rfl
  | x :: l => by show Nat.succ (lenN l) = _; rw [lenN_eq l]; rfl
theorem defdB_eq (u : VV) : defdB u = u.defd := by cases u <;> rfl
theorem cellB_eq (u : VV) : cellB u = u.cell := by cases u <;> rfl
theorem brecB_true {b x : Bool} (h : Bool.rec (motive := fun _ => Bool) false x b = true) : b = true ∧ x = true := by
  cases b with
  | false => cases h
  | true => exact ⟨rfl, h⟩
theorem allCell_eq : ∀ {l : List VV}, allCell l = true → okCells l = true
  | [], _ => rfl
  | x :: l, h => by
    obtain ⟨h1, h2⟩ := brecB_true (show Bool.rec (motive := fun _ => Bool) false (allCell l) (cellB x) = true from h)
    rw [cellB_eq] at h1
    have := allCell_eq h2
    unfold okCells at this ⊢
    simp [h1, this]
theorem boxOk_eq {u : VV} (h : boxOk u = true) : u.defd = true ∧ okCells u.cells = true := by
  obtain ⟨h1, h2⟩ := brecB_true h
  exact ⟨by rw [← defdB_eq]; exact h1, allCell_eq h2⟩
theorem storeOk_eq {u : VV} {m o : Nat} {md : Mode} {e : List VV} (h : storeOk u m md o e = true) : u.defd = true ∧ u.cells.length = m ∧ md ≠ .ro ∧ o + u.cells.length ≤ e.length ∧ okCells u.cells = true := by
  obtain ⟨h1, h⟩ := brecB_true h
  obtain ⟨h2, h⟩ := brecB_true h
  have h3 : modeRo md = false := by
    cases hm : modeRo md with
    | false => rfl
    | true => rw [hm] at h; cases h
  rw [h3] at h
  obtain ⟨h4, h5⟩ := brecB_true h
  refine ⟨by rw [← defdB_eq]; exact h1, by rw [← lenN_eq]; exact Nat.eq_of_beq_eq_true h2, ?_, ?_, allCell_eq h5⟩
  · rintro rfl; cases h3
  · rw [← lenN_eq, ← lenN_eq e]; exact Nat.le_of_ble_eq_true h4
theorem efK_some {y : VEf} {E : Fr} {g : Gt} {n : Nat} {k : VV → Up → Option R} {a : R} (h : efK y E g n k = some a) : ∃ v us, y.ev E g n = some (v, us) ∧ k v us = some a := by
  cases y with
  | store m x v =>
    obtain ⟨p, h1, h2⟩ := odK_some (show odK x E _ = some a from h)
    obtain ⟨u, h3, h4⟩ := odK_some h2
    obtain ⟨⟨b, i, o⟩, rfl, h5⟩ := ptrOf_some h4
    obtain ⟨bl, h6, h7⟩ := obK_some (show obK (g b) _ = some a from h5)
    obtain ⟨t, md, es, rfl, h8⟩ := rowOf_some h7
    obtain ⟨e, h9, h10⟩ := nthK_some h8
    obtain ⟨h11, h12⟩ := brec_some h10
    rw [updK_eq, setK_eq] at h12
    obtain ⟨s1, s2, s3, s4, s5⟩ := storeOk_eq h11
    exact ⟨_, _, by simp only [VEf.ev, h1, h3]; rw [if_pos ⟨s1, s2⟩]; simp only [stc, h6]; rw [if_neg s3]; simp only [h9]; rw [if_pos ⟨s4, s5⟩], h12⟩
  | alloc t zs => exact ⟨_, _, rfl, h⟩
  | box t x =>
    obtain ⟨u, h1, h2⟩ := odK_some (show odK x E _ = some a from h)
    obtain ⟨h3, h4⟩ := brec_some h2
    obtain ⟨s1, s2⟩ := boxOk_eq h3
    exact ⟨_, _, by simp only [VEf.ev, h1]; rw [if_pos ⟨s1, s2⟩], h4⟩
  | mkmap => exact ⟨_, _, rfl, h⟩
  | _ => exact ef_simple h
end
end Go.Wm
