/- The canonical machine's run: each step hands on what is reckoned already; where a loop over a map may go in several orders, all are gone, and what they come to is held together. -/
import Derived.Test.YtbcaceeiehjplacGreatDoorWmR
namespace Go.Wm
set_option linter.unusedVariables false
set_option linter.unusedSimpArgs false

/-! ### codes -/
/-- what stands behind a part of the text is put to its end -/
def sapp : VC → VC → VC
  | .seq x y, r => .seq x (sapp y r)
  | x, r => .seq x r
def strip : VC → VC
  | .seq x y => .seq (strip x) (strip y)
  | .cond s x y => .cond s (strip x) (strip y)
  | .block i x => .block i (strip x)
  | .loop x => .loop (strip x)
  | .scope x => .scope (strip x)
  | .dlm a r => sapp (strip a) (strip r)
  | c => c
def spineOk : VC → Bool
  | .seq _ y => spineOk y
  | .dlm _ _ => false
  | _ => true
/-- nothing is put off, no loop over a function, no mark -/
def noDI : VI → Bool
  | .dfr _ _ _ _ => false
  | _ => true
def noD : VC → Bool
  | .reg l _ => l.all noDI
  | .dreg l _ _ => l.all noDI
  | .seq x y => noD x && noD y
  | .cond _ x y => noD x && noD y
  | .block _ x => noD x
  | .loop x => noD x
  | .scope x => noD x
  | .rfunc _ _ _ _ => false
  | .dlm _ _ => false
  | _ => true

/-! ### are they the same? -/
def listE {α : Type} (f : α → α → Bool) : List α → List α → Bool
  | [], [] => true
  | x :: l, y :: m => f x y && listE f l m
  | _, _ => false
def paE : PA → PA → Bool
  | ⟨a, b, c⟩, ⟨d, e, f⟩ => Nat.beq a d && (Nat.beq b e && Nat.beq c f)
def optE {α : Type} (f : α → α → Bool) : Option α → Option α → Bool
  | none, none => true
  | some x, some y => f x y
  | _, _ => false
def boolE : Bool → Bool → Bool
  | true, b => b
  | false, b => !b
def kindM : IntKind → Nat
  | .i8 => 0 | .i16 => 1 | .i32 => 2 | .i64 => 3 | .u8 => 4 | .u16 => 5 | .u32 => 6 | .u64 => 7
theorem kindM_inj {a b : IntKind} (h : Nat.beq (kindM a) (kindM b) = true) : a = b := by
  cases a <;> cases b <;> first | rfl | cases h
def vvE : Nat → VV → VV → Bool
  | 0, _, _ => false
  | n + 1, a, b => match a, b with
    | .undef, .undef => true
    | .bool x, .bool y => boolE x y
    | .int s x, .int t y => Nat.beq (kindM s) (kindM t) && ieq x y
    | .str s, .str t => listE (fun a b => Nat.beq a.toNat b.toNat) s t
    | .ptr p, .ptr q => optE paE p q
    | .sl p a b, .sl q c d => optE paE p q && (Nat.beq a c && Nat.beq b d)
    | .fn f l, .fn g m => Nat.beq f g && listE (vvE n) l m
    | .nilFn, .nilFn => true
    | .agg l, .agg m => listE (vvE n) l m
    | .tup l, .tup m => listE (vvE n) l m
    | .map p, .map q => optE Nat.beq p q
    | .nilI, .nilI => true
    | .yield a, .yield b => Nat.beq a b
    | .ifc t v, .ifc u w => Nat.beq t u && vvE n v w
    | _, _ => false
def mdN : Mode → Nat
  | .ro => 0
  | .own => 1
  | .loose => 2
def blkE : Blk → Blk → Bool
  | .dead, .dead => true
  | .row t m es, .row u n fs => Nat.beq t u && (Nat.beq (mdN m) (mdN n) && listE (listE (vvE 50)) es fs)
  | .obj (.map es), .obj (.map fs) => listE (fun a b => vvE 50 a.1 b.1 && vvE 50 a.2 b.2) es fs
  | _, _ => false
def veE : VE → VE → Bool
  | .normal, .normal => true
  | .ret, .ret => true
  | .exit a, .exit b => Nat.beq a b
  | _, _ => false
theorem listE_eq {α : Type} {f : α → α → Bool} (hf : ∀ x y, f x y = true → x = y) : ∀ {l m : List α}, listE f l m = true → l = m
  | [], [], _ => rfl
  | x :: l, y :: m, h => by
    simp only [listE, Bool.and_eq_true] at h
    rw [hf _ _ h.1, listE_eq hf h.2]
  | [], _ :: _, h => by cases h
  | _ :: _, [], h => by cases h
theorem paE_eq {p q : PA} (h : paE p q = true) : p = q := by
  obtain ⟨a, b, c⟩ := p
  obtain ⟨d, e, f⟩ := q
  simp only [paE, Bool.and_eq_true] at h
  rw [Nat.eq_of_beq_eq_true h.1, Nat.eq_of_beq_eq_true h.2.1, Nat.eq_of_beq_eq_true h.2.2]
theorem optE_eq {α : Type} {f : α → α → Bool} (hf : ∀ x y, f x y = true → x = y) {p q : Option α} (h : optE f p q = true) : p = q := by
  cases p <;> cases q <;> first | rfl | (cases h; done) | exact congrArg some (hf _ _ h)
theorem boolE_eq {a b : Bool} (h : boolE a b = true) : a = b := by cases a <;> cases b <;> first | rfl | cases h
theorem ieqE {x y : Int} (h : ieq x y = true) : x = y := by
  cases x <;> cases y <;> simp only [ieq] at h
  · rw [Nat.eq_of_beq_eq_true h]
  · cases h
  · cases h
  · rw [Nat.eq_of_beq_eq_true h]
theorem vvE_eq : ∀ (n : Nat) (a b : VV), vvE n a b = true → a = b
  | 0, _, _, h => by cases h
  | n + 1, a, b, h => by
    have ih := vvE_eq n
    have nb : ∀ x y, Nat.beq x y = true → x = y := fun x y h => Nat.eq_of_beq_eq_true h
    cases a <;> cases b <;> simp only [vvE, Bool.and_eq_true] at h <;> first | rfl | (cases h; done) | skip
    · rw [boolE_eq h]
    · rw [kindM_inj h.1, ieqE h.2]
    · rw [listE_eq (fun x y h => by have := nb _ _ h; exact UInt8.toNat_inj.1 this) h]
    · rw [optE_eq (fun _ _ => paE_eq) h]
    · rw [optE_eq (fun _ _ => paE_eq) h.1, nb _ _ h.2.1, nb _ _ h.2.2]
    · rw [nb _ _ h.1, listE_eq ih h.2]
    · rw [listE_eq ih h]
    · rw [listE_eq ih h]
    · rw [optE_eq nb h]
    · rw [nb _ _ h]
    · rw [nb _ _ h.1, ih _ _ h.2]
theorem blkE_eq {a b : Blk} (h : blkE a b = true) : a = b := by
  have nb : ∀ x y, Nat.beq x y = true → x = y := fun x y h => Nat.eq_of_beq_eq_true h
  cases a with
  | dead => cases b <;> first | rfl | cases h
  | row t m es =>
    cases b with
    | row u n fs =>
      simp only [blkE, Bool.and_eq_true] at h
      have hm : m = n := by
        have := nb _ _ h.2.1
        cases m <;> cases n <;> first | rfl | cases this
      rw [nb _ _ h.1, hm, listE_eq (fun _ _ h => listE_eq (vvE_eq 50) h) h.2.2]
    | _ => cases h
  | obj o =>
    cases b with
    | obj o' =>
      cases o <;> cases o' <;> first | (cases h; done) | skip
      simp only [blkE] at h
      rw [listE_eq (fun x y h => by
        rw [Bool.and_eq_true] at h
        exact Prod.ext (vvE_eq 50 _ _ h.1) (vvE_eq 50 _ _ h.2)) h]
    | _ => cases o <;> cases h
theorem veE_eq {a b : VE} (h : veE a b = true) : a = b := by
  cases a <;> cases b <;> first | rfl | (cases h; done) | rw [Nat.eq_of_beq_eq_true h]

abbrev Out := VE × Fr × Tr
abbrev Ans := List Out
abbrev CallK := FuncId → List VV → Tr → (VV → Tr → Option Ans) → Option Ans
abbrev YieldK := Nat → List VV → Tr → (VV → Tr → Option Ans) → Option Ans
abbrev LK := CallK → YieldK → Fr → Tr → (Fr → Tr → Option Ans) → Option Ans
/-- the same frame, and as many blocks -/
def sameF (F : Fr) (n : Nat) : Out → Bool
  | (.normal, F', T') => listE (fun a b => Nat.beq a.1 b.1 && vvE 50 a.2 b.2) F F' && Nat.beq n T'.n
  | _ => false
def jAll : Ans → List Nat
  | [] => []
  | (_, _, T) :: r => T.j ++ jAll r
noncomputable def agree (T : Tr) (i : Nat) (o : Out) : Bool := optE blkE (treeG T.t i) (treeG o.2.2.t i)
def insN (s : Nat) : List Nat → List Nat
  | [] => [s]
  | x :: l => bif Nat.blt s x then s :: x :: l else bif Nat.beq s x then x :: l else x :: insN s l
/-- each once: those that were met are the bits of a number -/
noncomputable def dedN : List Nat → Nat → List Nat := List.rec (motive := fun _ => Nat → List Nat) (fun _ => []) fun x _ ih m =>
  natK x fun x => Bool.rec (natK (Nat.lor m (Nat.shiftLeft 1 x)) fun m => x :: ih m) (ih m) (Nat.beq (Nat.land (Nat.shiftRight m x) 1) 1)
noncomputable def insAll : List Nat → List Nat := List.rec (motive := fun _ => List Nat) [] fun x _ ih => insN x ih
noncomputable def sortN (l : List Nat) : List Nat := insAll (dedN l 0)
/-- what they have alike: the frame, how many blocks, the blocks that were written; those in which they differ are forgotten -/
noncomputable def merge : Ans → Option (Fr × Nat × Up)
  | (.normal, F, T) :: r => bif r.all (sameF F T.n) then some (F, T.n, (sortN (jAll ((.normal, F, T) :: r))).map fun i => (i, bif r.all (agree T i) then (treeG T.t i).getD .dead else .dead)) else none
  | _ => none
def appA : List Out → List Out → List Out
  | [], m => m
  | x :: l, m => x :: appA l m
/-- whichever -/
noncomputable def anyO {α : Type} (f : α → Option Ans) : List α → Option Ans
  | [] => some []
  | x :: l => obK (f x) fun a => obK (anyO f l) fun b => some (appA a b)
def unseen : List (VV × VV) → Nat → List Nat → List (Nat × VV × VV)
  | [], _, _ => []
  | e :: es, i, seen => bif seen.any (Nat.beq i) then unseen es (Nat.succ i) seen else (i, e) :: unseen es (Nat.succ i) seen

/-! ### the run -/
noncomputable def trK {R : Type} (T : Tr) (k : Nat → Tree Blk → List Nat → R) : R := Tr.rec k T
theorem trK_eq {R : Type} (T : Tr) (k : Nat → Tree Blk → List Nat → R) : trK T k = k T.n T.t T.j := by cases T; rfl
noncomputable def wantK {R : Type} (g : Option (Nat × Bool)) : Fr → Option R → Option R → Option R :=
  Option.rec (motive := fun _ => Fr → Option R → Option R → Option R) (fun _ x _ => x) (fun p E x y => Prod.rec (fun s b => obK (want E (some (s, b))) fun c => Bool.rec y x c) p) g
noncomputable def filtK {R : Type} (F : Fr) : Nat → (Fr → R) → R :=
  List.rec (motive := fun _ => Nat → (Fr → R) → R) (fun _ k => k []) (fun p _ ih m k => Prod.rec (fun s v => Bool.rec (ih m k) (natK (Nat.xor m (Nat.shiftLeft 1 s)) fun m => ih m fun G => k ((s, v) :: G)) (Nat.beq (Nat.land (Nat.shiftRight m s) 1) 1)) p) F
noncomputable def onlyK {R : Type} (F : Fr) (m : Nat) (k : Fr → R) : R := Bool.rec (filtK F (Nat.lor m (Nat.shiftLeft 1 dslot)) k) (k F) (Nat.beq m 0)
noncomputable def ptK {R : Type} (d : Option Nat) (v : VV) (E : Fr) (k : Fr → R) : R := Option.rec (k E) (fun s => k ((s, v) :: E)) d
noncomputable def fnOf {R : Type} (v : VV) (k : FuncId → List VV → Option R) (k2 : Nat → Option R) : Option R :=
  VV.rec (motive_1 := fun _ => Option R) (motive_2 := fun _ => Unit) none (fun _ => none) (fun _ _ => none) (fun _ => none) (fun p => none) (fun _ _ _ => none) (fun f l _ => k f l) none (fun l _ => none) (fun _ _ => none) (fun _ => none) none k2 (fun _ _ _ => none) () (fun _ _ _ _ => ()) v
noncomputable def appK {α R : Type} (a b : List α) (k : List α → R) : R := List.rec (motive := fun _ => (List α → R) → R) (fun k => k b) (fun x _ ih k => ih fun l => k (x :: l)) a k
noncomputable def st_rd (d : Nat) (g : Option (Nat × Bool)) (y : VOp) (ih : LK) : LK := fun cl yl E T k => wantK g E (rdK y E (treeG T.t) fun v => ih cl yl ((d, v) :: E) T k) (ih cl yl ((d, .tup []) :: E) T k)
noncomputable def st_ef (d : Option Nat) (g : Option (Nat × Bool)) (y : VEf) (ih : LK) : LK := fun cl yl E T k => wantK g E (trK T fun n t _ => efK y E (treeG t) n fun v us => upK us T fun T' => ptK d v E fun E' => ih cl yl E' T' k) (ptK d (.tup []) E fun E' => ih cl yl E' T k)
noncomputable def callK (cl : CallK) (yl : YieldK) (f : Od) (ar : List Od) (E : Fr) (T : Tr) (k : VV → Tr → Option Ans) : Option Ans := odK f E fun fv => odsK ar E fun vs => fnOf fv (fun fid caps => appK vs caps fun l => cl fid l T k) (fun b => yl b vs T k)
noncomputable def st_call (d : Option Nat) (g : Option (Nat × Bool)) (f : Od) (ar : List Od) (ih : LK) : LK := fun cl yl E T k => wantK g E (callK cl yl f ar E T fun r T' => ptK d r E fun E' => ih cl yl E' T' k) (ptK d (.tup []) E fun E' => ih cl yl E' T k)
noncomputable def nxK (d : Nat) (x : Od) (ih : LK) : LK := fun cl yl E T k =>
  odK x E fun u => ptrOf u fun p => match p with
    | ⟨b, 0, 0⟩ => match treeG T.t b with
      | some (.obj (.iter m n seen)) => match treeG T.t m with
        | some (.obj (.map es)) => bif Nat.beq (lenN es) n then (match unseen es 0 seen with
            | [] => upK [(b, .dead)] T fun T' => ih cl yl ((d, .tup [.bool false]) :: E) T' k
            | us => anyO (fun p => listK natK (seen ++ [p.1]) fun seen' => upK [(b, .obj (.iter m n seen'))] T fun T' => vvK (.tup [.bool true, p.2.1, p.2.2]) fun v => ih cl yl ((d, v) :: E) T' k) us) else none
        | _ => none
      | _ => none
    | _ => none
noncomputable def st_nx (d : Nat) (g : Option (Nat × Bool)) (x : Od) (ih : LK) : LK := fun cl yl E T k => wantK g E (nxK d x ih cl yl E T k) (ih cl yl ((d, .tup []) :: E) T k)
noncomputable def dferK {R : Type} (E : Fr) (v : VV) (k : Fr → Option R) : Option R := Option.rec (k ((dslot, .tup [v]) :: E)) (fun o => tupOf o fun l => k ((dslot, .tup (v :: l)) :: E)) (geto E dslot)
noncomputable def st_dfr (d : Option Nat) (g : Option (Nat × Bool)) (f : Od) (ar : List Od) (ih : LK) : LK := fun cl yl E T k => wantK g E (odK f E fun fv => odsK ar E fun vs => fnOf fv (fun fid caps => vvK (.tup (.fn fid caps :: vs)) fun v => dferK E v fun E => ptK d .undef E fun E' => ih cl yl E' T k) (fun _ => none)) (ptK d (.tup []) E fun E' => ih cl yl E' T k)
noncomputable def st_rcv (d : Nat) (g : Option (Nat × Bool)) (ih : LK) : LK := fun cl yl E T k => wantK g E none (ih cl yl ((d, .tup []) :: E) T k)
noncomputable def st_bad (d : Option Nat) (g : Option (Nat × Bool)) (ih : LK) : LK := fun cl yl E T k => wantK g E none (ptK d (.tup []) E fun E' => ih cl yl E' T k)
noncomputable def stepK : VI → LK → LK := VI.rec (motive := fun _ => LK → LK) st_rd st_ef st_call st_nx st_dfr st_rcv st_bad
noncomputable def runLK : List VI → LK := List.rec (motive := fun _ => LK) (fun _ _ E T k => k E T) (fun x _ ih => stepK x ih)

/-! ### regions that draw their order -/
abbrev Chk := VOp × Fr × VV × Nat × Nat
abbrev XK := CallK → YieldK → List (Nat × Nat) → Nat → Fr → Tr → List (Tree Blk) → List Chk → (Fr → Tr → List (Tree Blk) → List Chk → Option Ans) → Option Ans
noncomputable def callF (cl : CallK) (f : Od) (ar : List Od) (E : Fr) (T : Tr) (k : VV → Tr → Option Ans) : Option Ans := odK f E fun fv => odsK ar E fun vs => fnOf fv (fun fid caps => appK vs caps fun l => cl fid l T k) (fun _ => none)
/-- a call of which all that it comes to is held together at once -/
noncomputable def dcall (cl : CallK) (yl : YieldK) (f : Od) (ar : List Od) (E : Fr) (T : Tr) (k : VV → Tr → Option Ans) : Option Ans :=
  obK (callF cl f ar E T fun r T' => some [(.normal, [(0, r)], T')]) fun outs => match outs with
    | [(_, [(_, r)], T')] => k r T'
    | _ => none
noncomputable def bdK {R : Type} (b : List (Nat × Nat)) (k : Nat → Nat → List (Nat × Nat) → Option R) : Option R := List.rec none (fun p r _ => Prod.rec (fun lo hi => k lo hi r) p) b
noncomputable def x_rd (d : Nat) (g : Option (Nat × Bool)) (y : VOp) (ih : XK) : XK := fun cl yl b m E T hs ck k => bdK b fun lo hi r => wantK g E
  (rdK y E (treeG T.t) fun v => Bool.rec (ih cl yl r m ((d, v) :: E) T hs ((y, E, v, lo, hi) :: ck) k) (ih cl yl r m ((d, v) :: E) T hs ck k) (and (Nat.beq lo m) (Nat.beq hi m))) (ih cl yl r m ((d, .tup []) :: E) T hs ck k)
noncomputable def x_ef (d : Option Nat) (g : Option (Nat × Bool)) (y : VEf) (ih : XK) : XK := fun cl yl b m E T hs ck k => bdK b fun lo hi r => wantK g E
  (trK T fun n t _ => efK y E (treeG t) n fun v us => upK us T fun T' => ptK d v E fun E' => natK (Nat.succ m) fun m => trK T' fun _ t' _ => ih cl yl r m E' T' (t' :: hs) ck k) (ptK d (.tup []) E fun E' => natK (Nat.succ m) fun m => trK T fun _ t' _ => ih cl yl r m E' T (t' :: hs) ck k)
noncomputable def x_call (d : Option Nat) (g : Option (Nat × Bool)) (f : Od) (ar : List Od) (ih : XK) : XK := fun cl yl b m E T hs ck k => bdK b fun lo hi r => wantK g E
  (dcall cl yl f ar E T fun v T' => ptK d v E fun E' => natK (Nat.succ m) fun m => trK T' fun _ t' _ => ih cl yl r m E' T' (t' :: hs) ck k) (ptK d (.tup []) E fun E' => natK (Nat.succ m) fun m => trK T fun _ t' _ => ih cl yl r m E' T (t' :: hs) ck k)
noncomputable def x_no (d : Option Nat) (g : Option (Nat × Bool)) (ih : XK) : XK := fun cl yl b m E T hs ck k => bdK b fun lo hi r => wantK g E none (ptK d (.tup []) E fun E' => ih cl yl r m E' T hs ck k)
noncomputable def xstepK : VI → XK → XK := VI.rec (motive := fun _ => XK → XK) x_rd x_ef x_call (fun d g _ => x_no (some d) g) (fun d g _ _ => x_no d g) (fun d g => x_no (some d) g) x_no
noncomputable def runXK : List VI → XK := List.rec (motive := fun _ => XK) (fun _ _ _ _ E T hs ck k => k E T hs ck) (fun x _ ih => xstepK x ih)
/-- the heaps are counted from the last -/
noncomputable def chkT (y : VOp) (E : Fr) (v : VV) (lo hi : Nat) : Nat → List (Tree Blk) → Bool
  | _, [] => true
  | n, t :: ts => (bif Nat.ble lo n && Nat.ble n hi then (match y.evF E (treeG t) with | some u => vvE 50 v u | none => false) else true) && chkT y E v lo hi (Nat.pred n) ts
noncomputable def chkA (m : Nat) (hs : List (Tree Blk)) : List Chk → Bool
  | [] => true
  | (y, E, v, lo, hi) :: r => chkT y E v lo hi m hs && chkA m hs r

noncomputable def loopK {R : Type} (g : Fr → Tr → (VE → Fr → Tr → Option R) → Option R) (n : Nat) : Fr → Tr → (VE → Fr → Tr → Option R) → Option R :=
  Nat.rec (motive := fun _ => Fr → Tr → (VE → Fr → Tr → Option R) → Option R) (fun _ _ _ => none) (fun _ ih F T k => g F T fun e F T => VE.rec (ih F T k) (k .ret F T) (fun i => k (.exit i) F T) e) n
abbrev KC := VE → Fr → Tr → Option Ans
abbrev CK := CallK → YieldK → Nat → Fr → Tr → KC → Option Ans
noncomputable def c_skip : CK := fun _ _ _ F T k => k .normal F T
noncomputable def c_reg (l : List VI) (keep : Nat) : CK := fun cl yl n F T k => runLK l cl yl F T fun E T => onlyK E keep fun F => k .normal F T
noncomputable def c_dreg (l : List VI) (b : List (Nat × Nat)) (keep : Nat) : CK := fun cl yl n F T k => trK T fun _ t _ => runXK l cl yl b 0 F T [t] [] fun E T hs ck => Bool.rec none (onlyK E keep fun F => k .normal F T) (chkA (Nat.pred (lenN hs)) hs ck)
noncomputable def c_seq (_ _ : VC) (ix iy : CK) : CK := fun cl yl n F T k => ix cl yl n F T fun e F T => VE.rec (iy cl yl n F T k) (k .ret F T) (fun i => k (.exit i) F T) e
noncomputable def c_cond (s : Nat) (_ _ : VC) (ix iy : CK) : CK := fun cl yl n F T k => getK F s fun v => boolOf v fun b => Bool.rec (iy cl yl n F T k) (ix cl yl n F T k) b
noncomputable def c_block (id : Nat) (_ : VC) (ix : CK) : CK := fun cl yl n F T k => ix cl yl n F T fun e F T => VE.rec (k .normal F T) (k .ret F T) (fun i => Bool.rec (k (.exit i) F T) (k .normal F T) (Nat.beq i id)) e
noncomputable def c_loop (_ : VC) (ix : CK) : CK := fun cl yl n F T k => loopK (ix cl yl n) n F T k
noncomputable def c_exit (id : Nat) : CK := fun cl yl n F T k => k (.exit id) F T
noncomputable def c_ret : CK := fun cl yl n F T k => k .ret F T
noncomputable def c_scope (_ : VC) (ix : CK) : CK := fun cl yl n F T k => ix cl yl n F T k
def delK (F : Fr) : Fr := F.filter fun p => !(Nat.beq p.1 dslot)
noncomputable def c_rfunc (f : Od) (ps : List Nat) (va vb : VC) (_ _ : CK) : CK := fun cl yl n F T k => odK f F fun fv => fnOf fv (fun fid caps => trK T fun m _ _ => natK (Nat.succ m) fun m1 => upK [(m, .obj (.defs false)), (m1, .obj (.loop ⟨0, none, 0, 0, delK F, ps, va, vb, m⟩))] T fun T1 =>
        cl fid (.yield m1 :: caps) T1 fun _ T2 => match treeG T2.t m1 with
          | some (.obj (.loop r)) => Bool.rec (upK [(m1, .obj (.loop { r with st := 3 }))] T2 fun T3 => dferK F (.map (some m)) fun F' => Option.rec (k .normal F' T3) (fun e => k e F' T3) r.pend) none (Nat.beq r.st 2)
          | _ => none) (fun _ => none)
noncomputable def c_bad : CK := fun _ _ _ _ _ _ => none
noncomputable def c_dlm (a _ : VC) (ia ir : CK) : CK := fun cl yl n F T k => Bool.rec none (trK T fun tn tt tj => obK (ia cl yl n F ⟨tn, tt, []⟩ fun e F T' => some [(e, F, T')]) fun outs => obK (merge outs) fun o => match o with
    | (F', n1, us) => upsK us fun us => upK us ⟨tn, tt, []⟩ fun T2 => trK T2 fun n2 t2 j2 => Bool.rec none (appK j2 tj fun j => ir cl yl n F' ⟨n2, t2, j⟩ k) (Nat.beq n1 n2)) (spineOk a)
noncomputable def runCK : VC → CK := VC.rec (motive := fun _ => CK) c_skip c_reg c_dreg c_seq c_cond c_block c_loop c_exit c_ret c_scope c_rfunc c_bad c_dlm
noncomputable def argsK {R : Type} (l : List VV) : Nat → (Fr → R) → R :=
  List.rec (motive := fun _ => Nat → (Fr → R) → R) (fun _ k => k []) (fun v _ ih n k => natK (Nat.succ n) fun m => ih m fun F => k ((n, v) :: F)) l
/-- those that were put off -/
noncomputable def drun1 (dl : CallK) (x : VV) (H : Tr) (k : Tr → Option Ans) : Option Ans :=
  match x with
  | .map (some b) => match treeG H.t b with
    | some (.obj (.defs false)) => upK [(b, .obj (.defs true))] H k
    | _ => none
  | .tup (.fn g caps :: as) => appK as caps fun l => dl g l H fun _ H => k H
  | _ => none
noncomputable def drunK (dl : CallK) (ds : List VV) : Tr → (Tr → Option Ans) → Option Ans :=
  List.rec (motive := fun _ => Tr → (Tr → Option Ans) → Option Ans) (fun H k => k H) (fun x _ ih H k => drun1 dl x H fun H => ih H k) ds
noncomputable def resK (rs : List RV) (F : Fr) (H : Tr) (k : VV → Tr → Option Ans) : Option Ans := obK (resV F (treeG H.t) rs) fun v => vvK v fun v => k v H
noncomputable def endK (dl : CallK) (rs : List RV) (k : VV → Tr → Option Ans) : KC := fun e F H =>
  (fun fin => VE.rec fin fin (fun _ => none) e) (Option.rec (resK rs F H k) (fun o => tupOf o fun ds => drunK dl ds H fun H => resK rs F H k) (geto F dslot))
noncomputable def endD (rs : List RV) (k : VV → Tr → Option Ans) : KC := fun e F H =>
  (fun fin => VE.rec fin fin (fun _ => none) e) (Option.rec (resK rs F H k) (fun _ => none) (geto F dslot))
noncomputable def dvc (cl : CallK) (yl : YieldK) (n : Nat) (vc : VC) (F : Fr) (H : Tr) (k : KC) : Option Ans :=
  match vc with
  | .seq (.reg [.rcv d none, .rd d2 none (.mv (.t s))] keep) y => bif Nat.beq s d then onlyK ((d2, .nilI) :: (d, .nilI) :: F) keep fun F => runCK y cl yl n F H k else none
  | vc => runCK vc cl yl n F H k
structure Mach where
  c : CallK
  y : YieldK
  d : CallK
noncomputable def m_call (TT : Tree FRow) (n : Nat) (ih : Mach) : CallK := fun f args H k => obK (treeG TT f) fun r => FRow.rec (fun rf rn vc rs => Bool.rec none (argsK args 0 fun F => runCK vc ih.c ih.y n F H (endK ih.d rs k)) (and (Nat.beq rf f) (Nat.ble (lenN args) rn))) r
noncomputable def m_defer (TT : Tree FRow) (n : Nat) (ih : Mach) : CallK := fun f args H k => obK (treeG TT f) fun r => FRow.rec (fun rf rn vc rs => Bool.rec none (argsK args 0 fun F => dvc ih.c ih.y n vc F H (endD rs k)) (and (Nat.beq rf f) (Nat.ble (lenN args) rn))) r
noncomputable def m_yield (n : Nat) (ih : Mach) : YieldK := fun b vs H k => match treeG H.t b with
  | some (.obj (.loop r)) => bif Nat.beq r.st 0 && (noD r.va && noD r.vb) then obK (zipF r.ps vs r.E) fun F => runCK r.va ih.c ih.y n F H fun e F1 H1 => match e with
    | .normal => match treeG H1.t b with
      | some (.obj (.loop r1)) => bif Nat.beq r1.st 0 then upK [(b, .obj (.loop { r1 with st := 2 }))] H1 fun H2 => runCK r.vb ih.c ih.y n F1 H2 fun e _ H3 => match treeG H3.t b with
        | some (.obj (.loop r2)) => match e with
          | .normal => upK [(b, .obj (.loop { r2 with st := 0, pend := none }))] H3 fun H4 => k (.bool true) H4
          | .ret => upK [(b, .obj (.loop { r2 with st := 1, pend := some .ret }))] H3 fun H4 => k (.bool false) H4
          | .exit i => upK [(b, .obj (.loop { r2 with st := 1, pend := some (.exit i) }))] H3 fun H4 => k (.bool false) H4
        | _ => none else none
      | _ => none
    | _ => none else none
  | _ => none
noncomputable def mach (TT : Tree FRow) (n : Nat) (d : Nat) : Mach :=
  Nat.rec (motive := fun _ => Mach) ⟨fun _ _ _ _ => none, fun _ _ _ _ => none, fun _ _ _ _ => none⟩ (fun _ ih => ⟨m_call TT n ih, m_yield n ih, m_defer TT n ih⟩) d
end Go.Wm
