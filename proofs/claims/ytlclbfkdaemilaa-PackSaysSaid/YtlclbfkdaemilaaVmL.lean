/- The canonical machine, run: what it comes to is what every run of the model comes to. -/
import Derived.Test.YtlclbfkdaemilaaVmJ
namespace Go.Vm
set_option linter.unusedSimpArgs false
set_option linter.unusedVariables false
open Go.RowKit

/-! ### equal, as a Bool -/
def PA.beq (p q : PA) : Bool := p.blk == q.blk && p.idx == q.idx && p.off == q.off
theorem PA.beq_eq {p q : PA} (h : p.beq q = true) : p = q := by
  obtain ⟨a, b, c⟩ := p; obtain ⟨d, e, f⟩ := q
  simp only [PA.beq, Bool.and_eq_true, beq_iff_eq] at h
  obtain ⟨⟨rfl, rfl⟩, rfl⟩ := h
  rfl
mutual
def VV.beq : VV → VV → Bool
  | .undef, .undef => true
  | .bool a, .bool b => a == b
  | .int k a, .int l b => decide (k = l) && decide (a = b)
  | .str a, .str b => decide (a = b)
  | .ptr none, .ptr none => true
  | .ptr (some p), .ptr (some q) => p.beq q
  | .sl none a b, .sl none c d => a == c && b == d
  | .sl (some p) a b, .sl (some q) c d => p.beq q && a == c && b == d
  | .fn f l, .fn g m => decide (f = g) && VV.beqs l m
  | .nilFn, .nilFn => true
  | .agg l, .agg m => VV.beqs l m
  | .tup l, .tup m => VV.beqs l m
  | .map a, .map b => decide (a = b)
  | _, _ => false
def VV.beqs : List VV → List VV → Bool
  | [], [] => true
  | a :: l, b :: m => VV.beq a b && VV.beqs l m
  | _, _ => false
end
mutual
theorem VV.beq_eq : ∀ {a b : VV}, VV.beq a b = true → a = b := by
  intro a b h
  cases a with
  | undef => cases b <;> simp_all [VV.beq]
  | bool x => cases b <;> simp_all [VV.beq]
  | int k x => cases b <;> simp_all [VV.beq]
  | str x => cases b <;> simp_all [VV.beq]
  | nilFn => cases b <;> simp_all [VV.beq]
  | map p => cases b <;> simp_all [VV.beq]
  | ptr p =>
    cases b with
    | ptr q =>
      cases p <;> cases q <;> simp [VV.beq] at h
      · rfl
      · rw [PA.beq_eq h]
    | _ => cases p <;> simp [VV.beq] at h
  | sl p x y =>
    cases b with
    | sl q u v =>
      cases p <;> cases q <;> simp [VV.beq] at h
      · rw [h.1, h.2]
      · rw [PA.beq_eq h.1.1, h.1.2, h.2]
    | _ => cases p <;> simp [VV.beq] at h
  | fn f l =>
    cases b with
    | fn g m => simp [VV.beq] at h; rw [h.1, VV.beqs_eq h.2]
    | _ => simp [VV.beq] at h
  | agg l =>
    cases b with
    | agg m => simp [VV.beq] at h; rw [VV.beqs_eq h]
    | _ => simp [VV.beq] at h
  | tup l =>
    cases b with
    | tup m => simp [VV.beq] at h; rw [VV.beqs_eq h]
    | _ => simp [VV.beq] at h
theorem VV.beqs_eq : ∀ {a b : List VV}, VV.beqs a b = true → a = b := by
  intro a b h
  cases a with
  | nil => cases b <;> simp_all [VV.beqs]
  | cons x l =>
    cases b with
    | nil => simp [VV.beqs] at h
    | cons y m => simp [VV.beqs] at h; rw [VV.beq_eq h.1, VV.beqs_eq h.2]
end
def beqEs : List (List VV) → List (List VV) → Bool
  | [], [] => true
  | a :: l, b :: m => VV.beqs a b && beqEs l m
  | _, _ => false
theorem beqEs_eq : ∀ {a b : List (List VV)}, beqEs a b = true → a = b
  | [], [], _ => rfl
  | a :: l, b :: m, h => by simp [beqEs] at h; rw [VV.beqs_eq h.1, beqEs_eq h.2]
  | [], _ :: _, h => by simp [beqEs] at h
  | _ :: _, [], h => by simp [beqEs] at h
def beqPs : List (VV × VV) → List (VV × VV) → Bool
  | [], [] => true
  | a :: l, b :: m => VV.beq a.1 b.1 && VV.beq a.2 b.2 && beqPs l m
  | _, _ => false
theorem beqPs_eq : ∀ {a b : List (VV × VV)}, beqPs a b = true → a = b
  | [], [], _ => rfl
  | a :: l, b :: m, h => by
    simp [beqPs] at h
    obtain ⟨x, y⟩ := a; obtain ⟨z, u⟩ := b
    rw [beqPs_eq h.2]; have h1 := VV.beq_eq h.1.1; have h2 := VV.beq_eq h.1.2
    simp only at h1 h2
    rw [h1, h2]
  | [], _ :: _, h => by simp [beqPs] at h
  | _ :: _, [], h => by simp [beqPs] at h
def MOb.beq : MOb → MOb → Bool
  | .map a, .map b => beqPs a b
  | .iter a b c, .iter d e f => decide (a = d) && decide (b = e) && decide (c = f)
  | _, _ => false
theorem MOb.beq_eq {a b : MOb} (h : a.beq b = true) : a = b := by
  cases a <;> cases b <;> simp [MOb.beq] at h
  · rw [beqPs_eq h]
  · rw [h.1.1, h.1.2, h.2]
def Blk.beq : Blk → Blk → Bool
  | .dead, .dead => true
  | .obj a, .obj b => a.beq b
  | .row t m es, .row t' m' es' => decide (t = t') && decide (m = m') && beqEs es es'
  | _, _ => false
theorem Blk.beq_eq {a b : Blk} (h : a.beq b = true) : a = b := by
  cases a <;> cases b <;> simp [Blk.beq] at h
  · rfl
  · rw [h.1.1, h.1.2, beqEs_eq h.2]
  · rw [MOb.beq_eq h]
def beqH : Hp → Hp → Bool
  | [], [] => true
  | a :: l, b :: m => a.beq b && beqH l m
  | _, _ => false
theorem beqH_eq : ∀ {a b : Hp}, beqH a b = true → a = b
  | [], [], _ => rfl
  | a :: l, b :: m, h => by simp [beqH] at h; rw [Blk.beq_eq h.1, beqH_eq h.2]
  | [], _ :: _, h => by simp [beqH] at h
  | _ :: _, [], h => by simp [beqH] at h
/-- is the one the other's beginning? -/
def begH : Hp → Hp → Bool
  | [], _ => true
  | a :: l, b :: m => a.beq b && begH l m
  | _ :: _, [] => false
theorem begH_eq : ∀ {a b : Hp}, begH a b = true → ∃ g, b = a ++ g
  | [], b, _ => ⟨b, rfl⟩
  | a :: l, b :: m, h => by simp [begH] at h; obtain ⟨g, rfl⟩ := begH_eq h.2; rw [Blk.beq_eq h.1]; exact ⟨g, rfl⟩
  | _ :: _, [], h => by simp [begH] at h

/-! ### flat values -/
mutual
theorem VRel.flat {σ τ : Sg} : ∀ {v : VV} {v' : Value}, v.flat = true → VRel σ v v' → VRel τ v v'
  | _, _, _, .bool b => .bool b
  | _, _, _, .int k n => .int k n
  | _, _, _, .str s => .str s
  | _, _, h, .agg hl => .agg (LRel.flat (by simpa [VV.flat] using h) hl)
  | _, _, h, .tup hl => .tup (LRel.flat (by simpa [VV.flat] using h) hl)
  | _, _, h, .undef _ => by simp [VV.flat] at h
  | _, _, h, .ptrNil => by simp [VV.flat] at h
  | _, _, h, .ptr _ => by simp [VV.flat] at h
  | _, _, h, .slNil => by simp [VV.flat] at h
  | _, _, h, .sl _ => by simp [VV.flat] at h
  | _, _, h, .fn _ => by simp [VV.flat] at h
  | _, _, h, .nilFn => by simp [VV.flat] at h
  | _, _, h, .mapNil => by simp [VV.flat] at h
  | _, _, h, .map _ => by simp [VV.flat] at h
theorem LRel.flat {σ τ : Sg} : ∀ {v : List VV} {v' : List Value}, VV.flat.flats v = true → LRel σ v v' → LRel τ v v'
  | _, _, _, .nil => .nil
  | _, _, h, .cons a b => .cons (VRel.flat (by simp [VV.flat.flats] at h; exact h.1) a) (LRel.flat (by simp [VV.flat.flats] at h; exact h.2) b)
end

/-! ### what was made and is not needed any more is forgotten -/
mutual
theorem VRel.back {σ τ : Sg} (hl : σ.le τ) : ∀ {v : VV} {a b : Value}, VRel σ v a → VRel τ v b → VRel σ v b
  | _, _, _, .undef _, .undef b => .undef b
  | _, _, _, .bool _, .bool b => .bool b
  | _, _, _, .int _ _, .int k n => .int k n
  | _, _, _, .str _, .str s => .str s
  | _, _, _, .ptrNil, .ptrNil => .ptrNil
  | _, _, _, .ptr ⟨I, h, _⟩, .ptr ⟨J, k, e⟩ => by
    have : I = J := Option.some.inj ((hl _ _ h).symm.trans k)
    subst this
    exact .ptr ⟨I, h, e⟩
  | _, _, _, .slNil, .slNil => .slNil
  | _, _, _, .sl (p := p) ⟨hc, h⟩, .sl ⟨_, k⟩ => by
    have hI : ∃ I, σ p.blk = some I := by
      rcases h with ⟨⟨I, e, _⟩, _⟩ | ⟨I, _, e, _⟩ | ⟨_, _, e⟩
      · exact ⟨I, e⟩
      · exact ⟨I, e⟩
      · exact e
    obtain ⟨I, hI⟩ := hI
    refine .sl ⟨hc, ?_⟩
    rcases k with ⟨⟨J, e, e1⟩, e2⟩ | ⟨J, m, e1, e2, e3, ⟨J', e4, e5⟩, e6⟩ | ⟨e1, e2, _⟩
    · have : I = J := Option.some.inj ((hl _ _ hI).symm.trans e)
      subst this
      exact .inl ⟨⟨I, hI, e1⟩, e2⟩
    · have : I = J := Option.some.inj ((hl _ _ hI).symm.trans e1)
      subst this
      have : I = J' := Option.some.inj ((hl _ _ hI).symm.trans e4)
      subst this
      exact .inr (.inl ⟨I, m, hI, e2, e3, ⟨I, hI, e5⟩, e6⟩)
    · exact .inr (.inr ⟨e1, e2, I, hI⟩)
  | _, _, _, .fn h, .fn k => .fn (LRel.back hl h k)
  | _, _, _, .nilFn, .nilFn => .nilFn
  | _, _, _, .agg h, .agg k => .agg (LRel.back hl h k)
  | _, _, _, .tup h, .tup k => .tup (LRel.back hl h k)
  | _, _, _, .mapNil, .mapNil => .mapNil
  | _, _, _, .map h, .map k => by
    have e := Option.some.inj ((hl _ _ h).symm.trans k)
    rw [← e]
    exact .map h
theorem LRel.back {σ τ : Sg} (hl : σ.le τ) : ∀ {v : List VV} {a b : List Value}, LRel σ v a → LRel τ v b → LRel σ v b
  | _, _, _, .nil, .nil => .nil
  | _, _, _, .cons h t, .cons h' t' => .cons (VRel.back hl h h') (LRel.back hl t t')
end

theorem ObRel.back {σ τ : Sg} (hl : σ.le τ) {o : MOb} {a b : Obj} (h : ObRel σ o a) (k : ObRel τ o b) : ObRel σ o b := by
  cases o with
  | map es =>
    cases a <;> simp only [ObRel] at h
    cases b <;> simp only [ObRel] at k ⊢
    obtain ⟨h1, h2, h3⟩ := h
    obtain ⟨k1, k2, k3⟩ := k
    refine ⟨k1, k2, fun z e he => ?_⟩
    obtain ⟨e1, a1, a2, a3, a4⟩ := h3 z e he
    obtain ⟨e2, b1, b2, b3, b4⟩ := k3 z e he
    exact ⟨e2, b1, b2, a3.back hl b3, a4.back hl b4⟩
  | iter m n seen =>
    cases a <;> simp only [ObRel] at h
    cases b <;> simp only [ObRel] at k ⊢
    obtain ⟨⟨J, h1, h2⟩, h3⟩ := h
    obtain ⟨⟨K, k1, k2⟩, k3⟩ := k
    have : J = K := Option.some.inj ((hl _ _ h1).symm.trans k1)
    subst this
    exact ⟨⟨J, h1, k2⟩, k3⟩
theorem HRel.drop {σ τ : Sg} {B : Nat} {H G : Hp} {w w' : World} (h : HRel σ B H w) (h' : HRel τ B (H ++ G) w') (hl : σ.le τ) (hb : Below B w w') : HRel σ B H w' := by
  refine ⟨h'.base, h.dom, fun i t md es hi => ?_, h.inj, fun i o hi => ?_, h.oinj⟩
  rotate_right
  · obtain ⟨I, ho, i1, i2, i3, i4, i5⟩ := h.objs i o hi
    obtain ⟨J, ho', j1, j2, j3, j4, j5⟩ := h'.objs i o (by rw [List.getElem?_append_left (List.getElem?_eq_some_iff.1 hi).1]; exact hi)
    have : I = J := Option.some.inj ((hl _ _ i1).symm.trans j1)
    subst this
    exact ⟨I, ho', i1, i2, i3, j4, i5.back hl j5⟩
  obtain ⟨I, hR⟩ := h.rows i t md es hi
  obtain ⟨J, hS⟩ := h'.rows i t md es (by rw [List.getElem?_append_left (List.getElem?_eq_some_iff.1 hi).1]; exact hi)
  have : I = J := Option.some.inj ((hl _ _ hR.here).symm.trans hS.here)
  subst this
  refine ⟨I, hR.here, hS.lt, hS.len, hS.esz, fun k e j v h1 h2 => ?_, hS.old, hS.own⟩
  obtain ⟨q1, v1, q2, q3⟩ := hR.cell k e j v h1 h2
  obtain ⟨_, v2, q5, q6⟩ := hS.cell k e j v h1 h2
  exact ⟨q1, v2, q5, q3.back hl q6⟩

/-- a flat answer, and what was there stands: what was made is forgotten -/
theorem FnV.tidy {P : Program} {f : FuncId} {args : List VV} {H : Hp} {r : VV} (hf : r.flat = true) (h : FnV P f args H fun r' H' => r' = r ∧ ∃ G, H' = H ++ G) : FnV P f args H fun r' H' => r' = r ∧ H' = H := by
  refine ⟨h.1, fun σ B w vs h1 h2 => (h.2 σ B w vs h1 h2).mono fun e w' ⟨r', v', H', σ', q1, q2, ⟨q3, G, q4⟩, q5, q6, q7⟩ => ?_⟩
  subst q3 q4
  exact ⟨r', v', H, σ, q1, q2.flat hf, ⟨rfl, rfl⟩, Sg.le_refl _, h1.drop q6 q5 q7, q7⟩
/-- called from nothing, it may be called in any heap -/
theorem FnV.lift0 {P : Program} {f : FuncId} {H : Hp} {R : VV → Hp → Prop} (h : FnV P f [] [] R) (hr : ∀ r H', R r H' → r.flat = true) : FnV P f [] H fun r H2 => H2 = H ∧ ∃ H', R r H' := by
  refine ⟨h.1, fun σ B w vs h1 h2 => ?_⟩
  have hvs : vs.toList = [] := by
    generalize vs.toList = l at h2
    cases h2
    rfl
  have h0 : HRel (fun _ => none) w.heap.size [] w := ⟨Nat.le_refl _, (fun _ _ e => by cases e), (fun _ _ _ _ e => by simp at e), (fun _ _ _ _ _ _ _ _ _ _ e => by simp at e), (fun _ _ e => by simp at e), (fun _ _ _ _ _ _ e => by simp at e)⟩
  refine (h.2 _ w.heap.size w vs h0 (by rw [hvs]; exact .nil)).mono fun e w' ⟨r', v', H', σ', q1, q2, q3, q5, q6, q7⟩ => ?_
  exact ⟨r', v', H, σ, q1, q2.flat (hr _ _ q3), ⟨rfl, H', q3⟩, Sg.le_refl _, h1.later q7, q7.mono h1.base⟩

/-! ### the run -/
inductive VE where
  | normal
  | ret
  | exit (id : Nat)
def VE.to : VE → Exit
  | .normal => .normal
  | .ret => .ret
  | .exit i => .exit i
abbrev Caller := FuncId → List VV → Hp → Option (VV × Hp)

/-- the operations in the text's order -/
def runL (cl : Caller) : List VI → Fr → Hp → Option (Fr × Hp)
  | [], E, H => some (E, H)
  | x :: l, E, H => match want E x.gd with
    | some true => match x with
      | .rd d _ y => match y.ev E H with | some v => runL cl l ((d, v) :: E) H | none => none
      | .ef d _ y => match y.ev E H with | some (v, H') => runL cl l (E.pt d v) H' | none => none
      | .call d _ f ar => match f.ev E, Od.evs E ar with
        | some (.fn fid caps), some vs => match cl fid (vs ++ caps) H with | some (r, H') => runL cl l (E.pt d r) H' | none => none
        | _, _ => none
      | .nx _ _ _ => none
    | some false => runL cl l (E.pt x.ds (.tup [])) H
    | none => none
/-- the heaps on the way -/
def heapsL (cl : Caller) : List VI → Fr → Hp → List Hp
  | [], _, _ => []
  | x :: l, E, H => match want E x.gd with
    | some true => match x with
      | .rd d _ y => match y.ev E H with | some v => heapsL cl l ((d, v) :: E) H | none => []
      | .ef d _ y => match y.ev E H with | some (v, H') => H' :: heapsL cl l (E.pt d v) H' | none => []
      | .call d _ f ar => match f.ev E, Od.evs E ar with
        | some (.fn fid caps), some vs => match cl fid (vs ++ caps) H with | some (r, _) => heapsL cl l (E.pt d r) H | none => []
        | _, _ => []
      | .nx _ _ _ => []
    | some false => if x.isEf then H :: heapsL cl l (E.pt x.ds (.tup [])) H else heapsL cl l (E.pt x.ds (.tup [])) H
    | none => []
def part (hs : List Hp) (lo hi : Nat) : List Hp := (hs.take (hi + 1)).drop lo
def sameIn (hs : List Hp) (y : VOp) (E : Fr) (v : VV) : Bool := hs.all fun H1 => match y.ev E H1 with | some u => v.beq u | none => false
def callIn (hs : List Hp) (cl : Caller) (f : FuncId) (vs : List VV) (v : VV) : Bool := hs.all fun H1 => match cl f vs H1 with | some (u, H2) => v.beq u && begH H1 H2 | none => false
def isAt (hs : List Hp) (m : Nat) (H : Hp) : Bool := match hs[m]? with | some H1 => beqH H1 H | none => false
/-- the same, in whatever order: what reads, reads the same in each of these heaps -/
def runX (cl : Caller) (hs : List Hp) : List VI → List (Nat × Nat) → Nat → Fr → Hp → Option (Fr × Hp)
  | [], _, _, E, H => some (E, H)
  | x :: l, b, m, E, H => match want E x.gd with
    | some true => match x with
      | .rd d g y => match y.ev E H with | some v => if sameIn (part hs (b.headD (0, 0)).1 (b.headD (0, 0)).2) y E v = true then runX cl hs l b.tail m ((d, v) :: E) H else none | none => none
      | .ef d g y => match y.ev E H with | some (v, H') => if isAt hs (m + 1) H' = true then runX cl hs l b.tail (m + 1) (E.pt d v) H' else none | none => none
      | .call d g f ar => match f.ev E, Od.evs E ar with
        | some (.fn fid caps), some vs => match cl fid (vs ++ caps) H with | some (r, _) => if r.flat = true ∧ callIn (part hs (b.headD (0, 0)).1 (b.headD (0, 0)).2) cl fid (vs ++ caps) r = true then runX cl hs l b.tail m (E.pt d r) H else none | none => none
        | _, _ => none
      | .nx _ _ _ => none
    | some false => if x.isEf then (if isAt hs (m + 1) H = true then runX cl hs l b.tail (m + 1) (E.pt x.ds (.tup [])) H else none) else runX cl hs l b.tail m (E.pt x.ds (.tup [])) H
    | none => none
def loopN (g : Fr → Hp → Option (VE × Fr × Hp)) : Nat → Fr → Hp → Option (VE × Fr × Hp)
  | 0, _, _ => none
  | n + 1, F, H => match g F H with
    | some (.normal, F', H') => loopN g n F' H'
    | r => r
def runC (cl : Caller) (n : Nat) : VC → Fr → Hp → Option (VE × Fr × Hp)
  | .skip, F, H => some (.normal, F, H)
  | .reg l keep, F, H => match runL cl l F H with | some (E, H') => some (.normal, E.only keep, H') | none => none
  | .dreg l b keep, F, H => match runX cl (H :: heapsL cl l F H) l b 0 F H with | some (E, H') => some (.normal, E.only keep, H') | none => none
  | .seq x y, F, H => match runC cl n x F H with
    | some (.normal, F', H') => runC cl n y F' H'
    | r => r
  | .cond s x y, F, H => match F.get s with
    | some (.bool true) => runC cl n x F H
    | some (.bool false) => runC cl n y F H
    | _ => none
  | .block id x, F, H => match runC cl n x F H with
    | some (.exit i, F', H') => if i = id then some (.normal, F', H') else some (.exit i, F', H')
    | r => r
  | .loop x, F, H => loopN (runC cl n x) n F H
  | .exit id, F, H => some (.exit id, F, H)
  | .ret, F, H => some (.ret, F, H)
structure FRow where
  f : FuncId
  n : Nat
  vc : VC
  rs : List RV
def findF (f : FuncId) : List FRow → Option FRow
  | [] => none
  | r :: l => if r.f = f then some r else findF f l
def runF (T : List FRow) (n : Nat) : Nat → Caller
  | 0, _, _, _ => none
  | d + 1, f, args, H => match findF f T with
    | some r => if args.length ≤ r.n then (match runC (runF T n d) n r.vc (argsF 0 args) H with
      | some (.exit _, _, _) => none
      | some (_, F', H') => match resV F' H' r.rs with | some v => some (v, H') | none => none
      | none => none) else none
    | none => none

/-! ### it says the truth -/
structure FRow.Ok (P : Program) (r : FRow) : Prop where
  it : ∃ (fn : Func) (c : Code) (K : Nat → List Nat), P.funcs[r.f]? = some fn ∧ (fn.name == "runtime.NumGoroutine") = false ∧ fn.body = some c ∧ fn.ntmps = r.n ∧ compC P r.n K c = some r.vc ∧ compR P fn.results.toList = some r.rs

theorem FRow.ok_of {P : Program} {r : FRow} {fn : Func} {ks : List (List Nat)} (h1 : P.funcs[r.f]? = some fn) (h2 : (fn.name == "runtime.NumGoroutine") = false) (h3 : fn.ntmps = r.n)
    (h4 : (fn.body.bind (compC P r.n fun i => ks.getD i [])) = some r.vc) (h5 : compR P fn.results.toList = some r.rs) : r.Ok P := by
  cases hb : fn.body with
  | none => rw [hb] at h4; cases h4
  | some c => rw [hb] at h4; exact ⟨fn, c, _, h1, h2, hb, h3, h4, h5⟩

def Caller.Ok (P : Program) (cl : Caller) : Prop := ∀ f args H r H', cl f args H = some (r, H') → FnV P f args H fun r' H2 => r' = r ∧ H2 = H'

section
variable {P : Program} {B N : Nat} {cl : Caller} {n : Nat}
theorem runL_ok (hcl : Caller.Ok P cl) {E' : Fr} {H' : Hp} : ∀ {l : List VI} {E : Fr} {H : Hp}, runL cl l E H = some (E', H') → VOps P B N l E H fun e F H2 => e = .normal ∧ F = E' ∧ H2 = H'
  | [], E, H, h => by simp [runL] at h; obtain ⟨rfl, rfl⟩ := h; exact VOps.nil ⟨rfl, rfl, rfl⟩
  | x :: l, E, H, h => by
    unfold runL at h
    split at h
    · rename_i hw
      split at h
      · rename_i d g y
        split at h
        · rename_i v hv; exact VOps.rd hw hv (runL_ok hcl h)
        · cases h
      · rename_i d g y
        split at h
        · rename_i v H1 hv; exact VOps.ef hw hv (runL_ok hcl h)
        · cases h
      · rename_i d g f ar
        split at h
        · rename_i fid caps vs h1 h2
          split at h
          · rename_i r H1 hv
            refine VOps.call hw h1 h2 ((hcl _ _ _ _ _ hv).mono fun r' H2 hr => ?_)
            obtain ⟨rfl, rfl⟩ := hr
            exact runL_ok hcl h
          · cases h
        · cases h
      · cases h
    · rename_i hw
      cases x with
      | nx d g y => exact VOps.skn hw (runL_ok hcl h)
      | rd d g y => exact VOps.skip (d := some d) (.inl ⟨y, d, rfl, rfl⟩) hw (runL_ok hcl h)
      | ef d g y => exact VOps.skip (d := d) (.inr (.inl ⟨y, rfl⟩)) hw (runL_ok hcl h)
      | call d g f ar => exact VOps.skip (d := d) (.inr (.inr ⟨f, ar, rfl⟩)) hw (runL_ok hcl h)
    · cases h

theorem part_mem {hs : List Hp} {lo hi j : Nat} {H1 : Hp} (h1 : lo ≤ j) (h2 : j ≤ hi) (h : hs[j]? = some H1) : H1 ∈ part hs lo hi := by
  unfold part
  refine List.mem_of_getElem? (i := j - lo) ?_
  rw [List.getElem?_drop, List.getElem?_take, show lo + (j - lo) = j by omega, if_pos (by omega), h]
theorem isAt_eq {hs : List Hp} {m : Nat} {H : Hp} (h : isAt hs m H = true) : hs[m]? = some H := by
  unfold isAt at h
  split at h
  · rename_i H1 h1; rw [h1, beqH_eq h]
  · cases h
theorem runX_ok (hcl : Caller.Ok P cl) {hs : List Hp} {E' : Fr} {H' : Hp} : ∀ {l : List VI} {b : List (Nat × Nat)} {m : Nat} {E : Fr} {H : Hp}, runX cl hs l b m E H = some (E', H') → VX P hs l b m E H fun F H2 => F = E' ∧ H2 = H'
  | [], b, m, E, H, h => by simp [runX] at h; exact h
  | x :: l, b, m, E, H, h => by
    unfold runX at h
    split at h
    · rename_i hw
      right
      refine ⟨hw, ?_⟩
      split at h
      · rename_i d g y
        split at h
        · rename_i v hv
          split at h
          · rename_i hs1
            refine ⟨v, H, ⟨rfl, fun j H1 h1 h2 h3 => ?_⟩, runX_ok hcl h⟩
            have := List.all_eq_true.1 hs1 H1 (part_mem h1 h2 h3)
            split at this
            · rename_i u hu; rw [VV.beq_eq this]; exact hu
            · cases this
          · cases h
        · cases h
      · rename_i d g y
        split at h
        · rename_i v H1 hv
          split at h
          · rename_i hs1
            exact ⟨v, H1, ⟨hv, isAt_eq hs1⟩, runX_ok hcl h⟩
          · cases h
        · cases h
      · rename_i d g f ar
        split at h
        · rename_i fid caps vs h1 h2
          split at h
          · rename_i r H1 hv
            split at h
            · rename_i hr
              refine ⟨r, H, ⟨rfl, fid, caps, vs, h1, h2, fun j H2 g1 g2 g3 => ?_⟩, runX_ok hcl h⟩
              have := List.all_eq_true.1 hr.2 H2 (part_mem g1 g2 g3)
              split at this
              · rename_i u H3 hu
                rw [Bool.and_eq_true] at this
                obtain ⟨G, hG⟩ := begH_eq this.2
                refine FnV.tidy hr.1 ((hcl _ _ _ _ _ hu).mono fun r' H4 h4 => ?_)
                obtain ⟨rfl, rfl⟩ := h4
                exact ⟨(VV.beq_eq this.1).symm, G, hG⟩
              · cases this
            · cases h
          · cases h
        · cases h
      · cases h
    · rename_i hw
      left
      split at h
      · rename_i he
        split at h
        · rename_i hi
          exact ⟨hw, fun _ => isAt_eq hi, by simpa [VI.next, he] using runX_ok hcl h⟩
        · cases h
      · rename_i he
        exact ⟨hw, fun h => absurd h he, by simpa [VI.next, he] using runX_ok hcl h⟩
    · cases h

abbrev Is (e : VE) (F' : Fr) (H' : Hp) : VQ := fun e2 F2 H2 => e2 = e.to ∧ F2 = F' ∧ H2 = H'
theorem runC_ok (hcl : Caller.Ok P cl) (hm : P.follows .mixedOrders = true) : ∀ {vc : VC} {F : Fr} {H : Hp} {e : VE} {F' : Fr} {H' : Hp}, runC cl n vc F H = some (e, F', H') → VW P B N vc F H (Is e F' H')
  | .skip, F, H, e, F', H', h => by simp [runC] at h; obtain ⟨rfl, rfl, rfl⟩ := h; exact VW.skip ⟨rfl, rfl, rfl⟩
  | .exit id, F, H, e, F', H', h => by simp [runC] at h; obtain ⟨rfl, rfl, rfl⟩ := h; exact VW.exit ⟨rfl, rfl, rfl⟩
  | .ret, F, H, e, F', H', h => by simp [runC] at h; obtain ⟨rfl, rfl, rfl⟩ := h; exact VW.ret ⟨rfl, rfl, rfl⟩
  | .reg l keep, F, H, e, F', H', h => by
    simp only [runC] at h
    split at h
    · rename_i E H1 h1
      simp at h; obtain ⟨rfl, rfl, rfl⟩ := h
      refine VW.reg ?_
      intro ops os hc σ w a hH hF
      refine wpList_mono (fun e a' w' hp => hp.mono ?_) _ _ _ (runL_ok hcl h1 ops os hc σ w a hH hF)
      rintro e F H ⟨rfl, rfl, rfl⟩
      exact ⟨rfl, rfl, rfl, rfl⟩
    · cases h
  | .dreg l b keep, F, H, e, F', H', h => by
    simp only [runC] at h
    split at h
    · rename_i E H1 h1
      simp at h; obtain ⟨rfl, rfl, rfl⟩ := h
      refine VW.dreg (H :: heapsL cl l F H) hm rfl ?_
      exact VX.mono (fun E H h => by obtain ⟨rfl, rfl⟩ := h; exact ⟨rfl, rfl, rfl⟩) (runX_ok hcl h1)
    · cases h
  | .seq x y, F, H, e, F', H', h => by
    simp only [runC] at h
    split at h
    · rename_i F1 H1 h1
      refine VW.seq ((runC_ok hcl hm h1).mono ?_)
      rintro e F H ⟨rfl, rfl, rfl⟩
      exact runC_ok hcl hm h
    · rename_i hne
      refine VW.seq ((runC_ok hcl hm h).mono ?_)
      rintro e' F H ⟨rfl, rfl, rfl⟩
      cases e with
      | normal => exact absurd h (hne _ _)
      | ret => exact ⟨rfl, rfl, rfl⟩
      | exit i => exact ⟨rfl, rfl, rfl⟩
  | .cond s x y, F, H, e, F', H', h => by
    simp only [runC] at h
    split at h
    · rename_i hs; exact VW.cond hs (fun _ => runC_ok hcl hm h) (fun h => by cases h)
    · rename_i hs; exact VW.cond hs (fun h => by cases h) (fun _ => runC_ok hcl hm h)
    · cases h
  | .block id x, F, H, e, F', H', h => by
    simp only [runC] at h
    split at h
    · rename_i i F1 H1 h1
      refine VW.block ((runC_ok hcl hm h1).mono ?_)
      rintro e' F H ⟨rfl, rfl, rfl⟩
      simp only [VE.to, inB]
      split at h
      · rename_i hi; subst hi; rw [if_pos rfl]; simp at h; obtain ⟨rfl, rfl, rfl⟩ := h; exact ⟨rfl, rfl, rfl⟩
      · rename_i hi; rw [if_neg hi]; simp at h; obtain ⟨rfl, rfl, rfl⟩ := h; exact ⟨rfl, rfl, rfl⟩
    · rename_i hne
      refine VW.block ((runC_ok hcl hm h).mono ?_)
      rintro e' F H ⟨rfl, rfl, rfl⟩
      cases e with
      | normal => exact ⟨rfl, rfl, rfl⟩
      | ret => exact ⟨rfl, rfl, rfl⟩
      | exit i => exact absurd h (hne _ _ _)
  | .loop x, F, H, e, F', H', h => by
    simp only [runC] at h
    refine VW.loop (fun m F1 H1 => loopN (runC cl n x) m F1 H1 = some (e, F', H')) n h ?_
    intro m F1 H1 hI
    cases m with
    | zero => simp [loopN] at hI
    | succ m =>
      simp only [loopN] at hI
      split at hI
      · rename_i F2 H2 h2
        refine (runC_ok hcl hm h2).mono ?_
        rintro e' F H ⟨rfl, rfl, rfl⟩
        exact ⟨m, by omega, hI⟩
      · rename_i hne
        refine (runC_ok hcl hm hI).mono ?_
        rintro e' F H ⟨rfl, rfl, rfl⟩
        cases e with
        | normal => exact absurd hI (hne _ _)
        | ret => exact ⟨rfl, rfl, rfl⟩
        | exit i => exact ⟨rfl, rfl, rfl⟩

theorem findF_mem {f : FuncId} {r : FRow} : ∀ {T : List FRow}, findF f T = some r → r ∈ T ∧ r.f = f
  | [], h => by cases h
  | x :: l, h => by
    unfold findF at h
    split at h
    · rename_i hx; simp at h; subst h; exact ⟨by simp, hx⟩
    · obtain ⟨h1, h2⟩ := findF_mem h; exact ⟨by simp [h1], h2⟩
theorem runF_ok {T : List FRow} (hT : ∀ r ∈ T, r.Ok P) (hm : P.follows .mixedOrders = true) : ∀ d, Caller.Ok P (runF T n d)
  | 0, f, args, H, r, H', h => by cases h
  | d + 1, f, args, H, v, H', h => by
    unfold runF at h
    split at h
    · rename_i r hr
      obtain ⟨q1, rfl⟩ := findF_mem hr
      obtain ⟨fn, c, K, e1, e2, e3, e4, e5, e6⟩ := (hT r q1).it
      split at h
      case isFalse => cases h
      rename_i hlen
      have key : ∀ {e : VE} {F1 : Fr} {H1 : Hp}, (e = .ret ∨ e = .normal) → runC (runF T n d) n r.vc (argsF 0 args) H = some (e, F1, H1) → resV F1 H1 r.rs = some v → H1 = H' → FnV P r.f args H fun r' H2 => r' = v ∧ H2 = H' := fun {e F1 H1} he hrun hres hH => by
        subst hH
        refine FnV.enter e1 e2 e3 (K := K) (vc := r.vc) (by rw [e4]; exact e5) e6 (by rw [e4]; exact hlen) fun B => ?_
        rw [e4]
        refine (runC_ok (runF_ok hT hm d) hm hrun).mono ?_
        rintro e' F H ⟨rfl, rfl, rfl⟩
        refine ⟨?_, v, hres, rfl, rfl⟩
        rcases he with rfl | rfl
        · exact .inl rfl
        · exact .inr rfl
      split at h
      · cases h
      · rename_i e F1 H1 hne hrun
        split at h
        · rename_i u hu
          simp at h; obtain ⟨rfl, rfl⟩ := h
          refine key (e := e) ?_ hrun hu rfl
          cases e with
          | normal => exact .inr rfl
          | ret => exact .inl rfl
          | exit i => exact (hne _ rfl).elim
        · cases h
      · cases h
    · cases h
end
end Go.Vm
