/- Lists in rows; a function without a loop, run with letters. -/
import Derived.Test.YtlclbfkdaemilaaVmM
namespace Go.Vm
set_option linter.unusedSimpArgs false
set_option linter.unusedVariables false
open Go.RowKit
attribute [simp] upd VOp.ev VEf.ev Od.ev Od.evs Od.oev Fr.get Fr.pt want Vm.bin iarith VI.gd VI.ds VI.isEf VI.next VV.defd VV.cells VV.cell okCells

/-- 'p' is where these elements lie, each of 'z' cells -/
def Sl (H : Hp) (p : Option PA) (z : Nat) (es : List (List VV)) : Prop :=
  es = [] ∨ ∃ b i md t rows, p = some ⟨b, i, 0⟩ ∧ H[b]? = some (.row t md rows) ∧ (∀ e ∈ rows, e.length = z) ∧ ∀ (k : Nat) e, es[k]? = some e → rows[i + k]? = some e
def elp (p : Option PA) (k : Nat) : PA := match p with | some q => ⟨q.blk, q.idx + k, 0⟩ | none => ⟨0, 0, 0⟩

section
variable {H : Hp} {p : Option PA} {z : Nat} {es : List (List VV)}
theorem Sl.mono (h : Sl H p z es) (G : Hp) : Sl (H ++ G) p z es := by
  rcases h with h | ⟨b, i, md, t, rows, h1, h2, h3, h4⟩
  · exact .inl h
  · exact .inr ⟨b, i, md, t, rows, h1, by rw [List.getElem?_append_left (List.getElem?_eq_some_iff.1 h2).1]; exact h2, h3, h4⟩
theorem Sl.ixp (h : Sl H p z es) {k : Nat} (hk : k < es.length) : ∃ q, p = some q ∧ ixp H q k z = some (elp p k) := by
  rcases h with rfl | ⟨b, i, md, t, rows, rfl, h2, h3, h4⟩
  · simp at hk
  · refine ⟨_, rfl, ?_⟩
    have h5 := h4 k _ (List.getElem?_eq_getElem hk)
    cases rows with
    | nil => simp at h5
    | cons e rows =>
      have hz := h3 e (by simp)
      simp only [Vm.ixp, eszOf, h2, padd, hz, elp]
      simp
theorem Sl.ld (h : Sl H p z es) {k : Nat} {e : List VV} (he : es[k]? = some e) (o : Nat) : ld H ⟨(elp p k).blk, (elp p k).idx, o⟩ = e[o]? := by
  rcases h with rfl | ⟨b, i, md, t, rows, rfl, h2, h3, h4⟩
  · simp at he
  · simp only [Vm.ld, elp, h2, h4 k e he]
theorem Sl.ld0 (h : Sl H p z es) {k : Nat} {e : List VV} (he : es[k]? = some e) : Vm.ld H (elp p k) = e[0]? := by
  have := h.ld he 0
  cases p <;> simpa [elp] using this
theorem Sl.lds (h : Sl H p z es) {k : Nat} {e : List VV} (he : es[k]? = some e) : Vm.lds H (elp p k) z = some e := by
  rcases h with rfl | ⟨b, i, md, t, rows, rfl, h2, h3, h4⟩
  · simp at he
  · have h5 := h3 e (List.mem_of_getElem? (h4 k e he))
    subst h5
    show Vm.lds H ⟨b, i + k, 0⟩ e.length = some e
    unfold Vm.lds
    rw [h2]
    show (match rows[i + k]? with | some e' => if 0 + e.length ≤ e'.length then some ((e'.drop 0).take e.length) else none | none => none) = some e
    rw [h4 k e he]
    simp

theorem ev_ixa {E : Fr} {x i : Od} {m c : Nat} {kd : IntKind} {k : Int} (hx : x.ev E = some (.sl p m c)) (hi : i.ev E = some (.int kd k)) (h : Sl H p z es) (hm : es.length = m) (h0 : 0 ≤ k) (h1 : k < m) :
    (VOp.ixa z x i).ev E H = some (.ptr (some (elp p k.toNat))) := by
  obtain ⟨q, rfl, h2⟩ := h.ixp (k := k.toNat) (by omega)
  simp only [VOp.ev, hx, hi, h0, h1, and_self, if_true, h2]

/-- ints, each in a cell of its own -/
def intEs (l : List Int) : List (List VV) := l.map fun n => [.int .i64 n]
theorem intEs_len (l : List Int) : (intEs l).length = l.length := by simp [intEs]
theorem intEs_get (l : List Int) (k : Nat) : (intEs l)[k]? = (l[k]?).map fun n => [VV.int .i64 n] := by simp [intEs]
end

theorem ld_last (H : Hp) (t : TypeId) (md : Mode) (e : List VV) (es : List (List VV)) (o : Nat) : Vm.ld (H ++ [.row t md (e :: es)]) ⟨H.length, 0, o⟩ = e[o]? := by simp [Vm.ld]
theorem lds_last (H : Hp) (t : TypeId) (md : Mode) (e : List VV) (es : List (List VV)) (o n : Nat) : Vm.lds (H ++ [.row t md (e :: es)]) ⟨H.length, 0, o⟩ n = if o + n ≤ e.length then some ((e.drop o).take n) else none := by simp [Vm.lds]
theorem VV.beq_refl' : ∀ v : VV, VV.beq v v = true := by
  intro v
  refine VV.rec (motive_1 := fun v => VV.beq v v = true) (motive_2 := fun l => VV.beqs l l = true) ?_ ?_ ?_ ?_ ?_ ?_ ?_ ?_ ?_ ?_ ?_ ?_ ?_ v
  all_goals intros
  all_goals first
    | (rename_i p; cases p <;> simp [VV.beq, PA.beq]; done)
    | (rename_i p _ _; cases p <;> simp [VV.beq, PA.beq]; done)
    | (simp_all [VV.beq, VV.beqs]; done)

theorem FnV.run {P : Program} {r : FRow} {cl : Caller} {n : Nat} {args : List VV} {H H' : Hp} {e : VE} {F' : Fr} {v : VV} (hr : r.Ok P) (hcl : Caller.Ok P cl) (hm : P.follows .mixedOrders = true) (hl : args.length ≤ r.n) (he : e = .ret ∨ e = .normal)
    (hrun : runC cl n r.vc (argsF 0 args) H = some (e, F', H')) (hv : resV F' H' r.rs = some v) : FnV P r.f args H fun r' H2 => r' = v ∧ H2 = H' := by
  obtain ⟨fn, c, K, e1, e2, e3, e4, e5, e6⟩ := hr.it
  refine FnV.enter e1 e2 e3 (K := K) (vc := r.vc) (by rw [e4]; exact e5) e6 (by rw [e4]; exact hl) fun B => ?_
  rw [e4]
  refine (runC_ok hcl hm hrun).mono ?_
  rintro e' F H ⟨rfl, rfl, rfl⟩
  refine ⟨?_, v, hv, rfl, rfl⟩
  rcases he with rfl | rfl
  · exact .inl rfl
  · exact .inr rfl
theorem FnV.enterRow {P : Program} {r : FRow} {args : List VV} {H : Hp} {R : VV → Hp → Prop} (hr : r.Ok P) (hl : args.length ≤ r.n)
    (h : ∀ B, VW P B r.n r.vc (argsF 0 args) H fun e F' H' => (e = .ret ∨ e = .normal) ∧ ∃ v, resV F' H' r.rs = some v ∧ R v H') : FnV P r.f args H R := by
  obtain ⟨fn, c, K, e1, e2, e3, e4, e5, e6⟩ := hr.it
  exact FnV.enter e1 e2 e3 (K := K) (vc := r.vc) (by rw [e4]; exact e5) e6 (by rw [e4]; exact hl) fun B => by rw [e4]; exact h B
section
variable {P : Program} {B N : Nat} {E : Fr} {H : Hp} {Q : VQ} {R : Fr → Hp → Prop} {l : List VI} {b : List (Nat × Nat)} {m : Nat} {d : Nat} {g : Option (Nat × Bool)} {x : VOp} {v : VV}
theorem VOps.sk (hw : want E g = some false) (h : VOps P B N l ((d, .tup []) :: E) H Q) : VOps P B N (.rd d g x :: l) E H Q := VOps.skip (d := some d) (.inl ⟨x, d, rfl, rfl⟩) hw h
theorem VX.nil (h : R E H) {hs : List Hp} : VX P hs [] b m E H R := h
theorem VX.rd1 (hw : want E g = some true) (he : x.ev E H = some v) (h : VX P [H] l b.tail m ((d, v) :: E) H R) : VX P [H] (.rd d g x :: l) b m E H R :=
  .inr ⟨hw, v, H, ⟨rfl, fun j H1 _ _ hj => by
    cases j with
    | zero => simp at hj; subst hj; exact he
    | succ j => simp at hj⟩, h⟩
theorem VX.call1 {d : Option Nat} {fo : Od} {ar : List Od} {f : FuncId} {caps vs : List VV} (hw : want E g = some true) (hf : fo.ev E = some (.fn f caps)) (hv : Od.evs E ar = some vs) (hc : FnV P f (vs ++ caps) H fun r H2 => r = v ∧ H2 = H)
    (h : VX P [H] l b.tail m (E.pt d v) H R) : VX P [H] (.call d g fo ar :: l) b m E H R :=
  .inr ⟨hw, v, H, ⟨rfl, f, caps, vs, hf, hv, fun j H1 _ _ hj => by
    cases j with
    | zero => simp at hj; subst hj; exact hc
    | succ j => simp at hj⟩, h⟩
theorem VX.sk1 {hs : List Hp} (hw : want E g = some false) (h : VX P hs l b.tail m ((d, .tup []) :: E) H R) : VX P hs (.rd d g x :: l) b m E H R := .inl ⟨hw, fun h => by simp at h, h⟩
end
theorem Sl.int {H : Hp} {p : Option PA} {l : List Int} (h : Sl H p 1 (intEs l)) {k : Nat} (hk : k < l.length) : ∃ q, p = some q ∧ Vm.ixp H q k 1 = some (elp (some q) k) ∧ Vm.ld H (elp (some q) k) = some (.int .i64 (l.getD k 0)) := by
  obtain ⟨q, rfl, h1⟩ := h.ixp (k := k) (by simpa [intEs] using hk)
  refine ⟨q, rfl, h1, ?_⟩
  have := h.ld0 (k := k) (e := [.int .i64 (l.getD k 0)]) (by rw [intEs_get]; simp [List.getD, hk])
  simpa using this
section
variable {P : Program} {B N : Nat} {F E F' : Fr} {H : Hp} {Q : VQ} {K : Fr → Hp → Prop}
theorem VW.condT {s : Nat} {x y : VC} (hs : F.get s = some (.bool true)) (h : VW P B N x F H Q) : VW P B N (.cond s x y) F H Q := VW.cond hs (fun _ => h) (fun h => by cases h)
theorem VW.condF {s : Nat} {x y : VC} (hs : F.get s = some (.bool false)) (h : VW P B N y F H Q) : VW P B N (.cond s x y) F H Q := VW.cond hs (fun h => by cases h) (fun _ => h)
theorem VOps.fin {keep : List Nat} (hk : E.only keep = F') (h : Q .normal F' H) : VOps P B N [] E H (atEnd Q keep) := VOps.nil ⟨rfl, by rw [hk]; exact h⟩
@[simp] theorem then_normal : Then K Q .normal F H = K F H := rfl
@[simp] theorem then_ret : Then K Q .ret F H = Q .ret F H := rfl
@[simp] theorem then_exit {i : Nat} : Then K Q (.exit i) F H = Q (.exit i) F H := rfl
@[simp] theorem inB_normal {i : Nat} : inB i Q .normal F H = Q .normal F H := rfl
@[simp] theorem inB_ret {i : Nat} : inB i Q .ret F H = Q .ret F H := rfl
@[simp] theorem inB_exit {i j : Nat} : inB i Q (.exit j) F H = if j = i then Q .normal F H else Q (.exit j) F H := rfl
end

/-- nothing that was there has turned -/
def Ext (H H' : Hp) : Prop := H.length ≤ H'.length ∧ ∀ i, i < H.length → H'[i]? = H[i]?
theorem Ext.refl (H : Hp) : Ext H H := ⟨Nat.le_refl _, fun _ _ => rfl⟩
theorem Ext.trans {A B C : Hp} (h : Ext A B) (k : Ext B C) : Ext A C := ⟨Nat.le_trans h.1 k.1, fun i hi => (k.2 i (Nat.lt_of_lt_of_le hi h.1)).trans (h.2 i hi)⟩
theorem Ext.app (H G : Hp) : Ext H (H ++ G) := ⟨by simp, fun i hi => List.getElem?_append_left hi⟩
theorem Ext.push {A B : Hp} (h : Ext A B) (G : Hp) : Ext A (B ++ G) := h.trans (.app B G)
theorem Ext.set {A B : Hp} (h : Ext A B) {i : Nat} (hi : A.length ≤ i) (x : Blk) : Ext A (B.set i x) := ⟨by simpa using h.1, fun j hj => by rw [List.getElem?_set_ne (by omega)]; exact h.2 j hj⟩
theorem Ext.garbage {A B : Hp} (h : Ext A B) : ∃ G, B = A ++ G := by
  refine ⟨B.drop A.length, ?_⟩
  apply List.ext_getElem?
  intro i
  by_cases hi : i < A.length
  · rw [List.getElem?_append_left hi]; exact h.2 i hi
  · rw [List.getElem?_append_right (by omega), List.getElem?_drop]; congr 1; omega
theorem Ext.sl {A B : Hp} (h : Ext A B) {p : Option PA} {z : Nat} {es : List (List VV)} (hs : Sl A p z es) : Sl B p z es := by
  obtain ⟨G, rfl⟩ := h.garbage; exact hs.mono G
theorem Ext.get {A B : Hp} (h : Ext A B) {i : Nat} {x : Blk} (hi : A[i]? = some x) : B[i]? = some x := by rw [h.2 i (List.getElem?_eq_some_iff.1 hi).1]; exact hi
theorem FnV.calm {P : Program} {f : FuncId} {args : List VV} {H : Hp} {r : VV} (hf : r.flat = true) (h : FnV P f args H fun r' H' => r' = r ∧ Ext H H') : FnV P f args H fun r' H' => r' = r ∧ H' = H :=
  FnV.tidy hf (h.mono fun _ _ ⟨h1, h2⟩ => ⟨h1, h2.garbage⟩)
/-- a struct that lies in a block of its own -/
theorem ld_own {H : Hp} {i : Nat} {t : TypeId} {md : Mode} {e : List VV} {es : List (List VV)} (h : H[i]? = some (.row t md (e :: es))) (o : Nat) : Vm.ld H ⟨i, 0, o⟩ = e[o]? := by simp [Vm.ld, h]
theorem lds_own {H : Hp} {i : Nat} {t : TypeId} {md : Mode} {e : List VV} {es : List (List VV)} (h : H[i]? = some (.row t md (e :: es))) (o n : Nat) : Vm.lds H ⟨i, 0, o⟩ n = if o + n ≤ e.length then some ((e.drop o).take n) else none := by simp [Vm.lds, h]
/-- nobody is called -/
def nobody : Caller := fun _ _ _ => none
theorem nobody_ok (P : Program) : Caller.Ok P nobody := fun _ _ _ _ _ h => by cases h
end Go.Vm
