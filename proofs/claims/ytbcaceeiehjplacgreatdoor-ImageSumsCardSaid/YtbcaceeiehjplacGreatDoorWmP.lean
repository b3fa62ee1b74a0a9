/- Whole functions: calls that are put off, loops over functions, loops over maps. -/
import Derived.Test.YtbcaceeiehjplacGreatDoorWmO
namespace Go.Wm
set_option linter.unusedSimpArgs false
set_option linter.unusedVariables false
open Go.RowKit

section
variable {P : Program} {B N : Nat} {rn : Bool} {E : Fr} {H : Hp} {Q : VQ} {l : List VI}
/-- what 'next' comes to, wherever the iterator lies: nothing is left, or one entry that is left, whichever -/
theorem run_next_at (w : World) (ty : TypeId) (r bm since : Nat) (seen : Array Nat) (es : Array MapEntry) (clock : Nat) (hr : w.heap[r]? = some (.mapIter (some bm) since seen since)) (hb : w.heap[bm]? = some (.map es clock)) (hold : ∀ x ∈ es.toList, x.born < since) :
    ((leftOf es seen).size = 0 ∧ (Instr.next (.pointer (some ⟨r, 0, none⟩)) false ty).run P w = .ok (.tuple #[.bool false]) w) ∨
    ∃ e ∈ (leftOf es seen).toList, ∃ w1 : World, (w1 = w ∨ w1 = w.drew) ∧ (Instr.next (.pointer (some ⟨r, 0, none⟩)) false ty).run P w = .ok (.tuple #[.bool true, e.key, e.val]) { w1 with heap := w1.heap.setIfInBounds r (.mapIter (some bm) since (seen.push e.born) clock) } := by
  simp only [Instr.next, getObj, Sem.run_bind, Sem.run, hr, hb, Result.andThen, next_test_false seen es since since hold (Nat.le_refl _), Bool.false_eq_true, if_false]
  unfold leftOf
  have hmem : ∀ x ∈ (Array.filter (fun e => !seen.contains e.born) es).toList, x.born < since := fun x hx => hold x (by simp at hx ⊢; exact hx.1)
  generalize Array.filter (fun e => !seen.contains e.born) es = L at hmem ⊢
  have e1 : L.filter (fun x => decide (x.born < since)) = L := Array.filter_eq_self.2 (fun x hx => by simpa using hmem x (by simpa using hx))
  have e2 : L.filter (fun x => decide (x.born ≥ since)) = #[] := by
    rw [Array.filter_eq_empty_iff]
    intro x hx
    have := hmem x (by simpa using hx)
    simp
    omega
  simp only [e1, e2, Array.append_empty]
  by_cases h0 : L.size = 0
  · left
    have : L = #[] := Array.eq_empty_of_size_eq_zero h0
    subst this
    refine ⟨rfl, ?_⟩
    simp [choose, Sem.run, Question.forced]
  · right
    have hne : L.isEmpty = false := by simp [Array.isEmpty, h0]
    simp only [hne, Bool.false_eq_true, if_false, Array.empty_append, Array.size_map]
    have hch : ∃ (j : Nat) (w1 : World), j < L.size ∧ (w1 = w ∨ w1 = w.drew) ∧ (choose (Question.mapNext L.size)).run P w = .ok j w1 := by
      by_cases hf : L.size ≤ 1
      · exact ⟨0, w, by omega, .inl rfl, by simp [choose, Sem.run, Question.forced, hf]⟩
      · exact ⟨_, w.drew, Nat.mod_lt _ (by omega), .inr rfl, by
          simp only [choose, Sem.run, Question.forced, decide_eq_true_eq, hf, if_false, Question.cut]
          rfl⟩
    obtain ⟨j, w1, hj, hal, hrun⟩ := hch
    refine ⟨L[j], by simp, w1, hal, ?_⟩
    have hr1 : w1.heap[r]? = some (.mapIter (some bm) since seen since) := by rcases hal with rfl | rfl <;> exact hr
    simp only [hrun, Array.getElem?_map, Array.getElem?_eq_getElem hj, Option.map_some, Sem.run_bind, setObj, Sem.run, hr1, Result.andThen]
    rfl

theorem VOps.nx {d : Nat} {g : Option (Nat × Bool)} {x : Od} {b m n : Nat} {seen : List Nat} {es : List (VV × VV)} (hw : want E g = some true) (hx : x.ev E = some (.ptr (some ⟨b, 0, 0⟩))) (hb : H[b]? = some (.obj (.iter m n seen))) (hm : H[m]? = some (.obj (.map es))) (hn : es.length = n)
    (hover : (∀ i, i < n → i ∈ seen) → VOps P B N rn l ((d, .tup [.bool false]) :: E) H Q)
    (hnext : ∀ i e, i ∉ seen → es[i]? = some e → VOps P B N rn l ((d, .tup [.bool true, e.1, e.2]) :: E) (H.set b (.obj (.iter m n (seen ++ [i])))) Q) : VOps P B N rn (.nx d g x :: l) E H Q := by
  intro ro hro ops os hc σ w a hH hF
  obtain ⟨o, os', rfl, h1, h2⟩ := compL_cons hc
  obtain ⟨hd, hg, hdst, xo, ho, hxo⟩ := compI_inv h1
  have hnd := noDefer h1 (by intro _ _ _ _ h; cases h) (by intro _ _ h; cases h)
  have hdN : d < N := by rw [hdst] at hd; simpa [dstOk, VI.ds] using hd
  obtain ⟨ad, e1, J, hJ, had⟩ := ptr_inv (compOd_ok hxo hF hx)
  obtain ⟨I, hob, i1, i2, i3, i4, i5⟩ := hH.objs _ _ hb
  have : I = J := Option.some.inj (i1.symm.trans hJ)
  subst this
  cases hob <;> simp only [ObRel] at i5
  rename_i rm since s st
  obtain ⟨⟨K, k1, rfl⟩, k2, k3, k4⟩ := i5
  rw [k2, k3] at i4
  obtain ⟨hBm, hlt, cur, hcur, hent, hborn⟩ := obj_at hH hm k1
  have had0 : ad = ⟨I.real, 0, none⟩ := by rw [had, i3]; simp
  have hcs : cur.size = es.length := by have := hent.1; simpa using this.symm
  have hold : ∀ x ∈ cur.toList, x.born < n := fun x hx => by
    obtain ⟨k, hk, rfl⟩ := List.getElem_of_mem hx
    have := hborn k cur.toList[k] (by rw [← Array.getElem?_toList]; exact List.getElem?_eq_getElem hk)
    rw [this]; simp at hk; omega
  have hex : ∀ u w2, (Instr.next (.pointer (some ⟨I.real, 0, none⟩)) false o.type).run P w = .ok u w2 → (execOp a.eval o).run P w = .ok (.value u) w2 := fun u w2 h => by
    simp [execOp, ho, e1, had0, h, Result.andThen]
  unfold wpListIn
  rw [if_pos (want_ok hg hF hw)]
  refine ⟨fun _ _ => trivial, ?_⟩
  rw [Oper.semAt_eq _ _ _ hnd]
  rcases run_next_at (P := P) w o.type I.real K.real n s cur es.length i4 hcur hold with ⟨h0, hrun⟩ | ⟨en, hen, w1, hw1, hrun⟩
  · rw [hex _ _ hrun]
    simp only [Oper.uponIn, hdst, VI.ds]
    refine hover (fun i hi => ?_) ro hro ops os' h2 σ w _ hH (hF.put hdN (.tup (cs' := #[.bool false]) (.cons (.bool _) .nil)))
    have hemp : leftOf cur s = #[] := Array.eq_empty_of_size_eq_zero h0
    unfold leftOf at hemp
    rw [Array.filter_eq_empty_iff] at hemp
    have hi2 : i < cur.size := by omega
    have := hemp cur[i] (Array.getElem_mem hi2)
    rw [hborn i cur[i] (Array.getElem?_eq_getElem hi2)] at this
    rw [← k4]
    simpa using this
  · rw [hex _ _ hrun]
    simp only [Oper.uponIn, hdst, VI.ds]
    have hen2 : en ∈ cur.toList ∧ en.born ∉ s.toList := by
      unfold leftOf at hen
      simp at hen
      exact ⟨by simpa using hen.1, by simpa using hen.2⟩
    obtain ⟨k, hk, hke⟩ := List.getElem_of_mem hen2.1
    have hk2 : k < es.length := by simp at hk; omega
    obtain ⟨e', f1, f2, f3⟩ := hent.2 k _ (List.getElem?_eq_getElem hk2)
    rw [List.getElem?_eq_getElem hk] at f1
    have : e' = en := by simp at f1; rw [← f1]; simpa using hke
    subst this
    have hbk : e'.born = k := hborn k e' (by rw [← Array.getElem?_toList, List.getElem?_eq_getElem hk, hke])
    have hH1 : HRel P σ B H w1 := by rcases hw1 with rfl | rfl; exact hH; exact hH.heap_eq rfl
    have hB1 : Below B w w1 := by rcases hw1 with rfl | rfl; exact Below.refl _ _; exact (Below.refl _ _).drew
    have hsz1 : w1.heap = w.heap := by rcases hw1 with rfl | rfl <;> rfl
    have hlt1 : I.real < w1.heap.size := by rw [hsz1]; exact (Array.getElem?_eq_some_iff.1 i4).1
    have hset := hH1.setObj (o' := .iter m n (seen ++ [k])) hb i1 (w' := { w1 with heap := w1.heap.setIfInBounds I.real (.mapIter (some K.real) n (s.push e'.born) es.length) }) (ho := .mapIter (some K.real) n (s.push e'.born) es.length) (by simp) (by simp [hlt1]) (fun z hz => by rw [Array.getElem?_setIfInBounds_ne (Ne.symm hz)]) rfl
      ⟨⟨K, k1, rfl⟩, rfl, hn, by simp [k4, hbk]⟩ (Below.putObj i2 _)
    exact wpListIn_mono (fun e a w hp => hp.lift (Mv.set i1 (hB1.trans (Below.putObj i2 _)) fun z hz => by show (w1.heap.setIfInBounds _ _)[z]? = _; rw [Array.getElem?_setIfInBounds_ne (Ne.symm hz), hsz1])) _ _ _ (hnext k _ (by rw [← k4, ← hbk]; exact hen2.2) (List.getElem?_eq_getElem hk2) ro hro ops os' h2 σ _ _ hset (hF.put hdN (.tup (cs' := #[.bool true, e'.key, e'.val]) (.cons (.bool _) (.cons f2 (.cons f3 .nil))))))
end

/-! ### calls that are put off -/
/-- a function, called as one that was put off, while its caller returns -/
def FnD (P : Program) (f : FuncId) (args : List VV) (H : Hp) (R : VV → Hp → Prop) : Prop :=
  (∃ fn, P.funcs[f]? = some fn ∧ (fn.name == "runtime.NumGoroutine") = false ∧ fn.body.isSome = true) ∧
  ∀ σ B w (vs : Array Value), HRel P σ B H w → LRel σ args vs.toList → CallsDIn Fence.wide 0 P f vs .returning w fun e u w' => u = .returning ∧ Ret P B σ w R e w'
/-- those that were put off, one after the other -/
def DRun (P : Program) : List VV → Hp → (Hp → Prop) → Prop
  | [], H, Q => Q H
  | .tup (.fn f caps :: as) :: ds, H, Q => FnD P f (as ++ caps) H fun _ H' => DRun P ds H' Q
  | .map (some b) :: ds, H, Q => H[b]? = some (.obj (.defs false)) ∧ DRun P ds (H.set b (.obj (.defs true))) Q
  | _ :: _, _, _ => False
def Fr.dl (F : Fr) : List VV := match F.get dslot with | some (.tup l) => l | _ => []

section
variable {P : Program} {B N : Nat} {H : Hp} {w : World} {σ : Sg}
theorem invoke_run {f : FuncId} {fn : Func} {cap args : Array Value} {w : World} (hf : P.funcs[f]? = some fn) (hn : (fn.name == "runtime.NumGoroutine") = false) (hb : fn.body.isSome = true) : (invoke (.fn (.func f) cap) args).run P w = .ok (.enter f (args ++ cap)) w := by
  have hb' : ¬ fn.body = none := by intro hh; rw [hh] at hb; cases hb
  have hn' : ¬ fn.name = "runtime.NumGoroutine" := by simpa using hn
  simp [invoke, callFunc, hf, hn', hb']
theorem leaves_ok {fn : Func} {tmps : Array Value} {R : Ending → World → Prop} {Q : Hp → Prop} {σ0 : Sg} {w0 : World} (hfin : ∀ σ H w, Mv B σ0 σ w0 w → HRel P σ B H w → Q H → ∃ v, (results fn tmps).run P w = .ok v w ∧ R (.returned v) w) :
    ∀ (l : List VV) (m : List Deferred) (H : Hp) (w : World) (σ : Sg), Mv B σ0 σ w0 w → HRel P σ B H w → DItems σ l m → DRun P l H Q → LeavesInM Fence.wide 0 P fn tmps R m .returning w
  | [], m, H, w, σ, hm, hH, hi, hd => by
    cases hi
    exact hfin σ H w hm hH hd
  | v :: l, m, H, w, σ, hm, hH, hi, hd => by
    cases hi with
    | cons hx ht =>
    refine ⟨by simp, ?_⟩
    cases hx with
    | mark hb =>
      rename_i ms b I
      left
      obtain ⟨h1, h2⟩ := hd
      obtain ⟨J, ho, j1, j2, j3, j4, j5⟩ := hH.objs _ _ h1
      have : J = I := Option.some.inj (j1.symm.trans hb)
      subst this
      cases ho <;> simp only [ObRel] at j5
      rename_i o
      subst j5
      simp only [Bool.false_eq_true, if_false] at j4
      have hlt : J.real < w.heap.size := (Array.getElem?_eq_some_iff.1 j4).1
      have hset := hH.setObj (o' := .defs true) h1 hb (w' := { w with heap := w.heap.setIfInBounds J.real (.deferred none) }) (ho := .deferred none) (by simp) (by simp [hlt]) (fun z hz => by rw [Array.getElem?_setIfInBounds_ne (Ne.symm hz)]) rfl rfl (Below.putObj j2 _)
      have hmv : Mv B σ σ w { w with heap := w.heap.setIfInBounds J.real (.deferred none) } := Mv.set hb (Below.putObj j2 _) fun z hz => by rw [Array.getElem?_setIfInBounds_ne (Ne.symm hz)]
      refine ⟨J.real, _, rfl, ?_, leaves_ok hfin l ms _ _ σ (hm.trans hmv) hset ht h2⟩
      simp [Instr.takeDeferred, getObj, setObj, Sem.run, j4, Result.andThen]
    | call hc ha =>
      rename_i ms f caps args cap' arg'
      right
      refine ⟨by simp [Fence.wide], ?_⟩
      obtain ⟨⟨fn', hf, hn, hb⟩, hcall⟩ := hd
      have hl : LRel σ (args ++ caps) (arg' ++ cap').toList := by rw [Array.toList_append]; exact ha.append hc
      refine ⟨.func f, cap', f, arg' ++ cap', rfl, invoke_run hf hn hb, fun g _ => trivial, ?_⟩
      refine CallsDIn.mono (hcall σ B w _ hH hl) fun e u w' ⟨hu, r, v', H', σ', q1, q2, q3, q4, q5⟩ => ?_
      subst hu; subst q1
      exact leaves_ok hfin l ms H' w' σ' (hm.trans q4) q5 (ht.mono q4.le) q3
theorem DRel.items {F : Fr} {m : List Deferred} (h : DRel σ (F.get dslot) m) : DItems σ F.dl m := by
  unfold Fr.dl
  generalize F.get dslot = x at h
  cases h with
  | none => exact .nil
  | some h => exact h

theorem entry_frame {n : Nat} {args : List VV} {vs : Array Value} (hH : HRel P σ B H w) (hargs : LRel σ args vs.toList) (hl : args.length ≤ n) (hN : n ≤ dslot) : FRel σ n (argsF 0 args) { tmps := vs ++ Array.replicate (n - vs.size) undef, defers := [] } := by
  have hvl : vs.size = args.length := by have := hargs.length; simpa using this.symm
  refine ⟨by simp; omega, ⟨hN, hH.glob⟩, ?_, fun s v _ e => ?_⟩
  · cases h : (argsF 0 args).get dslot with
    | none => exact .none
    | some v =>
      obtain ⟨_, h2⟩ := argsF_get args 0 dslot v h
      have := (List.getElem?_eq_some_iff.1 h2).1
      omega
  · obtain ⟨_, h2⟩ := argsF_get args 0 s v e
    obtain ⟨v', r1, r2⟩ := hargs.get h2
    simp at r1
    have hs : s < vs.size := (Array.getElem?_eq_some_iff.1 r1).1
    rw [Array.getD_eq_getD_getElem?, Array.getElem?_append_left hs, r1]
    exact r2

theorem FnV.enter {f : FuncId} {fn : Func} {c : Code} {vc : VC} {K : Nat → Nat} {args : List VV} {rs : List RV} {R : VV → Hp → Prop} (hf : P.funcs[f]? = some fn) (hn : (fn.name == "runtime.NumGoroutine") = false) (hb : fn.body = some c)
    (hc : compC P fn.ntmps K c = some vc) (hr : compR P fn.results.toList = some rs) (hl : args.length ≤ fn.ntmps) (hN : fn.ntmps ≤ dslot)
    (h : ∀ B, VW P B fn.ntmps false vc (argsF 0 args) H fun e F' H' => (e = .ret ∨ e = .normal) ∧ DRun P F'.dl H' fun H2 => ∃ r, resV F' H2.g rs = some r ∧ R r H2) : FnV P f args H R := by
  refine ⟨⟨fn, hf, hn, by rw [hb]; rfl⟩, fun σ B w vs hH hargs => ?_⟩
  refine callsIn_wide.1 (callsIn_of_wp_marks (F := Fence.wide) (n := 0) hf hb trivial (wpIn_mono (h B none (fun _ => rfl) K c hc σ w _ hH (entry_frame hH hargs hl hN)) ?_))
  intro e a' w' hp
  obtain ⟨F', H', σ', ⟨he, hd⟩, q1, q2, q3⟩ := hp
  have key : LeavesInM Fence.wide 0 P fn a'.tmps (Ret P B σ w R) a'.defers .returning w' := by
    refine leaves_ok (σ0 := σ') (w0 := w') (fun σ2 H2 w2 hm hH2 hq => ?_) _ _ H' w' σ' (Mv.refl _ _ _) q2 q3.2.2.1.items hd
    obtain ⟨r, hr1, hr2⟩ := hq
    have hF2 : FRel σ2 fn.ntmps F' a' := q3.mono hm.le
    obtain ⟨v', s1, s2⟩ := resV_ok hH2 hF2 hr hr1
    exact ⟨v', s2, r, v', H2, σ2, rfl, s1, hr2, q1.trans hm, hH2⟩
  rcases he with rfl | rfl <;> exact key
theorem FnD.enter {f : FuncId} {fn : Func} {c : Code} {vc : VC} {K : Nat → Nat} {args : List VV} {rs : List RV} {R : VV → Hp → Prop} (hf : P.funcs[f]? = some fn) (hn : (fn.name == "runtime.NumGoroutine") = false) (hb : fn.body = some c)
    (hc : compC P fn.ntmps K c = some vc) (hr : compR P fn.results.toList = some rs) (hl : args.length ≤ fn.ntmps) (hN : fn.ntmps ≤ dslot)
    (h : ∀ B, VW P B fn.ntmps false vc (argsF 0 args) H fun e F' H' => (e = .ret ∨ e = .normal) ∧ F'.get dslot = none ∧ ∃ r, resV F' H'.g rs = some r ∧ R r H') : FnD P f args H R := by
  refine ⟨⟨fn, hf, hn, by rw [hb]; rfl⟩, fun σ B w vs hH hargs => ?_⟩
  refine callsDIn_of_wp hf hb trivial (wpIn_mono (h B none (fun _ => rfl) K c hc σ w _ hH (entry_frame hH hargs hl hN)) ?_)
  intro e a' w' hp
  obtain ⟨F', H', σ', ⟨he, hd, r, hr1, hr2⟩, q1, q2, q3⟩ := hp
  have hdef : a'.defers = [] := by
    have := q3.2.2.1
    rw [hd] at this
    cases hx : a'.defers with
    | nil => rfl
    | cons _ _ => rw [hx] at this; cases this
  obtain ⟨v', s1, s2⟩ := resV_ok q2 q3 hr hr1
  rcases he with rfl | rfl <;> exact ⟨hdef, v', s2, r, v', H', σ', rfl, s1, hr2, q1, q2⟩
/-- one that asks first what panic there is -/
theorem FnD.rcv {f : FuncId} {fn : Func} {c : Code} {y : VC} {d d2 keep : Nat} {K : Nat → Nat} {args : List VV} {rs : List RV} {R : VV → Hp → Prop} (hf : P.funcs[f]? = some fn) (hn : (fn.name == "runtime.NumGoroutine") = false) (hb : fn.body = some c)
    (hc : compC P fn.ntmps K c = some (.seq (.reg [.rcv d none, .rd d2 none (.mv (.t d))] keep) y)) (hr : compR P fn.results.toList = some rs) (hl : args.length ≤ fn.ntmps) (hN : fn.ntmps ≤ dslot)
    (h : ∀ B, VW P B fn.ntmps false y (Fr.only ((d2, .nilI) :: (d, .nilI) :: argsF 0 args) keep) H fun e F' H' => (e = .ret ∨ e = .normal) ∧ F'.get dslot = none ∧ ∃ r, resV F' H'.g rs = some r ∧ R r H') : FnD P f args H R := by
  refine ⟨⟨fn, hf, hn, by rw [hb]; rfl⟩, fun σ B w vs hH hargs => ?_⟩
  refine callsDIn_of_wpSIn hf hb trivial fun c₀ cs hmode => ?_
  obtain ⟨c', hp, c1, c2, rfl, h1, h2⟩ := compC_inv hc
  refine hp.2 _ _ _ _ _ _ (wpSIn_seq ?_)
  obtain ⟨c1', hp1, id, ops, rfl, hcl⟩ := compC_inv h1
  refine hp1.2 _ _ _ _ _ _ (wpSIn_region ?_)
  have hfr := entry_frame hH hargs hl hN
  generalize hA : ({ tmps := vs ++ Array.replicate (fn.ntmps - vs.size) undef, defers := [] } : Act) = a at hfr ⊢
  obtain ⟨o1, os1, e1, i1, hcl1⟩ := compL_cons hcl
  obtain ⟨o2, os2, e2, i2, hcl2⟩ := compL_cons hcl1
  have e3 : os2 = [] := by
    cases os2 with
    | nil => rfl
    | cons o os => unfold compL at hcl2; split at hcl2 <;> cases hcl2
  have hops : ops = #[o1, o2] := by
    have : ops.toList = [o1, o2] := by rw [e1, e2, e3]
    rw [← Array.toArray_toList (xs := ops), this]
  subst hops
  obtain ⟨hd1, hg1, hdst1, cc, hop1, hcal1⟩ := compI_inv i1
  obtain ⟨hd2, hg2, hdst2, hop2⟩ := compI_inv i2
  have hop2 : compRead P o2.op = some (.mv (.t d)) := hop2
  have hdN : d < fn.ntmps := by rw [hdst1] at hd1; simpa [dstOk, VI.ds] using hd1
  have hd2N : d2 < fn.ntmps := by rw [hdst2] at hd2; simpa [dstOk, VI.ds] using hd2
  have hdd : d ≠ dslot := by omega
  have hrec : recoverD (c₀ :: cs) = none := by simp [recoverD, hmode]
  have hrange : List.range (#[o1, o2] : Array Oper).size = [0, 1] := rfl
  rw [hrange]
  have hF1 : FRel σ fn.ntmps ((d, .nilI) :: argsF 0 args) (a.put o1.dst .nilIface) := by rw [hdst1]; exact hfr.put hdN .nilI
  obtain ⟨v', hv', hrun2⟩ := read_ok hop2 hH hF1 (v := .nilI) (by simp [VOp.ev, Od.ev, Fr.get_cons])
  have hF2 : FRel σ fn.ntmps ((d2, .nilI) :: (d, .nilI) :: argsF 0 args) ((a.put o1.dst .nilIface).put o2.dst v') := by rw [hdst2]; exact hF1.put hd2N hv'
  have hrun1 : (execOp a.eval o1).run P w = .ok .recover w := by
    simp [execOp, hop1, resolve, hcal1, Deferred.ofValue, invoke, builtin]
  have hw1 : Region.wanted o1 (yielded #[o1, o2] a.tmps) = true := want_ok hg1 hfr rfl
  have hw2 : Region.wanted o2 (yielded #[o1, o2] (a.put o1.dst .nilIface).tmps) = true := want_ok hg2 hF1 rfl
  simp only [wpOpsSIn, List.getElem?_toArray, List.getElem?_cons_zero, List.getElem?_cons_succ, hw1, hw2, if_true, hrun1, hrec, hrun2 w (Below.refl _ _)]
  refine ⟨fun _ _ => trivial, fun _ _ => trivial, ?_⟩
  refine wpSIn_of_wpIn rfl (wpIn_mono (h B none (fun _ => rfl) K c2 h2 σ w _ hH (hF2.only keep)) ?_)
  intro e a' w' hp
  obtain ⟨F', H', σ', ⟨he, hd, r, hr1, hr2⟩, q1, q2, q3⟩ := hp
  have hdef : a'.defers = [] := by
    have := q3.2.2.1
    rw [hd] at this
    cases hx : a'.defers with
    | nil => rfl
    | cons _ _ => rw [hx] at this; cases this
  obtain ⟨v', s1, s2⟩ := resV_ok q2 q3 hr hr1
  have hc0 : c₀ :: cs = { c₀ with mode := .returning } :: cs := by rw [← hmode]
  rcases he with rfl | rfl <;> exact ⟨hdef, .returning, hc0, v', s2, rfl, r, v', H', σ', rfl, s1, hr2, q1, q2⟩
end

/-! ### loops over functions -/
section
variable {P : Program} {B N : Nat} {H : Hp} {w : World} {σ : Sg}
theorem getLoop_run {l : Nat} {R : Loop} {w : World} (h : w.heap[l]? = some (.loop R)) : (Instr.getLoop l).run P w = .ok R w := by
  simp [Instr.getLoop, getObj, Sem.run, h, Result.andThen]
theorem setObj_run {l : Nat} {R : Loop} {o' : Obj} {w : World} (h : w.heap[l]? = some (.loop R)) : (setObj l o').run P w = .ok () { w with heap := w.heap.setIfInBounds l o' } := by
  simp [setObj, Sem.run, h]
theorem loop_at (hH : HRel P σ B H w) {b : Nat} {r : LoopR} {I : Info} (hb : H[b]? = some (.obj (.loop r))) (hI : σ b = some I) : B ≤ I.real ∧ ∃ R, w.heap[I.real]? = some (.loop R) ∧ LoopRel P σ r R := by
  obtain ⟨J, ho, j1, j2, j3, j4, j5⟩ := hH.objs _ _ hb
  have : J = I := Option.some.inj (j1.symm.trans hI)
  subst this
  cases ho <;> simp only [ObRel] at j5
  exact ⟨j2, _, j4, j5⟩
theorem loop_set (hH : HRel P σ B H w) {b : Nat} {r r' : LoopR} {I : Info} (hb : H[b]? = some (.obj (.loop r))) (hI : σ b = some I) {R' : Loop} (hR : LoopRel P σ r' R') (hB : B ≤ I.real) {R0 : Loop} (h0 : w.heap[I.real]? = some (.loop R0)) :
    HRel P σ B (H.set b (.obj (.loop r'))) { w with heap := w.heap.setIfInBounds I.real (.loop R') } ∧ Mv B σ σ w { w with heap := w.heap.setIfInBounds I.real (.loop R') } := by
  have hlt : I.real < w.heap.size := (Array.getElem?_eq_some_iff.1 h0).1
  exact ⟨hH.setObj hb hI (ho := .loop R') (by simp) (by simp [hlt]) (fun z hz => by rw [Array.getElem?_setIfInBounds_ne (Ne.symm hz)]) rfl hR (Below.putObj hB _), Mv.set hI (Below.putObj hB _) fun z hz => by rw [Array.getElem?_setIfInBounds_ne (Ne.symm hz)]⟩

theorem zip_frame : ∀ (ps : List Nat) (vs : List VV) (vs' : List Value) (E F : Fr) (a : Act) (n : Nat), zipF ps vs E = some F → (∀ s ∈ ps, s < n) → LRel σ vs vs' → FRel σ n E a →
    vs'.length = ps.length ∧ FRel σ n F { a with tmps := (ps.zip vs').foldl (fun t p => t.setIfInBounds p.1 p.2) a.tmps }
  | [], [], vs', E, F, a, n, h, hp, hl, hF => by cases hl; simp [zipF] at h; subst h; exact ⟨rfl, hF⟩
  | [], _ :: _, _, _, _, _, _, h, _, _, _ => by simp [zipF] at h
  | _ :: _, [], _, _, _, _, _, h, _, _, _ => by simp [zipF] at h
  | s :: ps, v :: vs, vs', E, F, a, n, h, hp, hl, hF => by
    cases hl with
    | cons h1 h2 =>
      simp only [zipF] at h
      obtain ⟨q1, q2⟩ := zip_frame ps vs _ ((s, v) :: E) F (a.put (some s) _) n h (fun t ht => hp t (by simp [ht])) h2 (hF.put (hp s (by simp)) h1)
      refine ⟨by simp [q1], ?_⟩
      simpa [Act.put] using q2

theorem YldV.round {b : Nat} {r : LoopR} {args : List VV} {F : Fr} {R : VV → Hp → Prop} (hb : H[b]? = some (.obj (.loop r))) (hst : r.st = 0) (hz : zipF r.ps args r.E = some F)
    (h : ∀ B N, VW P B N true r.va F H fun e F1 H1 => e = .normal ∧ ∃ r1, H1[b]? = some (.obj (.loop r1)) ∧ r1.st = 0 ∧ VW P B N true r.vb F1 (H1.set b (.obj (.loop { r1 with st := 2 }))) fun e F2 H2 => ∃ r2, H2[b]? = some (.obj (.loop r2)) ∧
      ((e = .normal ∧ R (.bool true) (H2.set b (.obj (.loop { r2 with st := 0, pend := none })))) ∨ (e = .ret ∧ R (.bool false) (H2.set b (.obj (.loop { r2 with st := 1, pend := some .ret })))) ∨
        ∃ i, e = .exit i ∧ R (.bool false) (H2.set b (.obj (.loop { r2 with st := 1, pend := some (.exit i) }))))) : YldV P b args H R := by
  intro σ B w vs I hH hargs hI
  obtain ⟨hB, R0, g1, hR0⟩ := loop_at hH hb hI
  obtain ⟨l1, l2, l3, l4, l5, ⟨n, n1, n2, n3, ⟨Ka, n4⟩, ⟨Kb, n5⟩⟩, l6⟩ := hR0
  have hF0 : FRel σ n r.E { tmps := R0.tmps, defers := [] } := ⟨n1, ⟨n2, hH.glob⟩, by rw [l4]; exact .none, fun s v _ e => l5 s v e⟩
  obtain ⟨z1, z2⟩ := zip_frame r.ps args vs.toList r.E F _ n hz n3 hargs hF0
  have hsz : vs.size = R0.params.size := by
    have : R0.params.size = r.ps.length := by rw [← l3]; simp
    rw [this, ← z1]; simp
  refine ⟨R0.fn, (R0.params.zip vs).foldl (fun tmps (t, a) => tmps.setIfInBounds t a) R0.tmps, R0.assign, R0.body, ?_, ?_⟩
  · simp [Instr.yield, getLoop_run g1, hsz, Result.andThen]
  have htm : (R0.params.zip vs).foldl (fun tmps (t, a) => tmps.setIfInBounds t a) R0.tmps = (r.ps.zip vs.toList).foldl (fun t p => t.setIfInBounds p.1 p.2) R0.tmps := by
    rw [← l3, ← Array.toList_zip, Array.foldl_toList]
  refine roundIn_of_wpIn trivial ?_
  rw [htm]
  refine wpIn_mono (h B n (some I.real) (fun e => by cases e) Ka _ n4 σ w _ hH z2) ?_
  intro e a1 w1 hp
  obtain ⟨F1, H1, σ1, ⟨he, r1, hb1, hst1, hbody⟩, q1, q2, q3⟩ := hp
  subst he
  have hI1 := q1.le _ _ hI
  obtain ⟨hB1, R1, g2, hR1⟩ := loop_at q2 hb1 hI1
  obtain ⟨m1, m2, m3, m4, m5, m6, m7⟩ := hR1
  have hRb : LoopRel P σ1 { r1 with st := 2 } { R1 with state := .busy } := ⟨rfl, m2, m3, m4, m5, m6, m7⟩
  obtain ⟨s1, s2⟩ := loop_set q2 hb1 hI1 hRb hB1 g2
  refine ⟨_, ?_, wpIn_mono (hbody (some I.real) (fun e => by cases e) Kb _ n5 σ1 _ a1 s1 (q3.mono s2.le)) ?_⟩
  · have : R1.state = .ready := by rw [m1, hst1]; rfl
    simp only [Instr.beginRound, Sem.run_bind, getLoop_run g2, Result.andThen_ok, setObj_run g2, this, Sem.run_pure]
  intro e a2 w2 hp
  obtain ⟨F2, H2, σ2, ⟨r2, hb2, hcase⟩, t1, t2, t3⟩ := hp
  have hI2 := t1.le _ _ (s2.le _ _ hI1)
  obtain ⟨hB2, R2, g3, hR2⟩ := loop_at t2 hb2 hI2
  obtain ⟨k1, k2, k3, k4, k5, k6, k7⟩ := hR2
  have fin : ∀ (pe : Option VE) (jump : Option Code), jump = pendOf pe → R (.bool jump.isNone) (H2.set b (.obj (.loop { r2 with st := if jump.isNone then 0 else 1, pend := pe }))) → ∃ v w', (Instr.endRound I.real jump).run P w2 = .ok v w' ∧ Ret P B σ w R (.returned v) w' := by
    intro pe jump hj hR
    have hRe : LoopRel P σ2 { r2 with st := if jump.isNone then 0 else 1, pend := pe } { R2 with state := if jump.isNone then .ready else .done, pending := jump } := ⟨by cases jump <;> rfl, hj, k3, k4, k5, k6, k7⟩
    obtain ⟨u1, u2⟩ := loop_set t2 hb2 hI2 hRe hB2 g3
    refine ⟨.bool jump.isNone, _, ?_, .bool jump.isNone, .bool jump.isNone, _, σ2, rfl, .bool _, hR, ((q1.trans s2).trans t1).trans u2, u1⟩
    simp only [Instr.endRound, Sem.run_bind, getLoop_run g3, Result.andThen_ok, setObj_run g3, Sem.run_pure]
  rcases hcase with ⟨rfl, hR⟩ | ⟨rfl, hR⟩ | ⟨i, rfl, hR⟩
  · exact fin none none rfl hR
  · exact fin (some .ret) (some .ret) rfl hR
  · exact fin (some (.exit i)) (some (.exit i)) rfl hR

def exOf : Option VE → Exit
  | none => .normal
  | some e => e.to
theorem VW.rfunc {f : Od} {ps : List Nat} {va vb : VC} {F : Fr} {Q : VQ} {fid : FuncId} {caps : List VV} (hf : f.ev F = some (.fn fid caps))
    (h : FnV P fid (.yield (H.length + 1) :: caps) ((H ++ [.obj (.defs false)]) ++ [.obj (.loop ⟨0, none, 0, 0, F.del dslot, ps, va, vb, H.length⟩)]) fun _ H' => ∃ r, H'[H.length + 1]? = some (.obj (.loop r)) ∧ (r.st == 2) = false ∧
      Q (exOf r.pend) (F.defer (.map (some H.length))) (H'.set (H.length + 1) (.obj (.loop { r with st := 3 })))) : VW P B N false (.rfunc f ps va vb) F H Q := fun ro hro K c hc σ w a hH hF => by
  obtain ⟨c', h0, g, ps', ca, cb, rfl, hg, hps, hlt, hca, hcb⟩ := compC_inv hc
  have := hro rfl
  subst this
  refine h0.1 _ _ _ _ _ (wpIn_rangeFunc fun fn _ => ?_)
  obtain ⟨caps', e1, hcaps⟩ := fn_inv (compOd_ok hg hF hf)
  obtain ⟨p1, p2⟩ := hH.pushObj (.defs false) (.deferred (some [])) (by intro cur t fr h; cases h) (fun τ _ => rfl)
  have hs1 : (w.alloc (.deferred (some []))).heap.size = w.heap.size + 1 := by simp
  obtain ⟨p3, p4⟩ := p1.pushObj (.loop ⟨0, none, 0, 0, F.del dslot, ps, va, vb, H.length⟩) (.loop { state := .ready, pending := none, fn := fn, tmps := a.tmps, params := ps', assign := ca, body := cb, defers := w.heap.size }) (by intro cur t fr h; cases h) (fun τ hτ => by
    refine ⟨rfl, rfl, hps, by rw [Fr.get_del, if_pos rfl], fun s v e => ?_, ⟨N, hF.1, hF.2.1.1, hlt, ⟨K, hca⟩, ⟨K, hcb⟩⟩, ⟨w.heap.size, 0, 0, 0, none⟩, hτ _ _ (Sg.push_self _ _ _), rfl⟩
    rw [Fr.get_del] at e
    split at e
    · cases e
    · rename_i hs
      exact (hF.2.2.2 s v (Ne.symm hs) e).mono (Sg.le_trans p2.le hτ))
  have hlen : (H ++ [Blk.obj (.defs false)]).length = H.length + 1 := by simp
  rw [hlen, hs1] at p3 p4
  have hy : VRel _ (.yield (H.length + 1)) (.func (.yield (w.heap.size + 1)) #[] #[]) := VRel.yield (Sg.push_self (σ.push H.length ⟨w.heap.size, 0, 0, 0, none⟩) (H.length + 1) ⟨w.heap.size + 1, 0, 0, 0, none⟩)
  obtain ⟨⟨fn', hfn, hnm, hbody⟩, hcall⟩ := h
  have hle2 := p2.trans p4
  obtain ⟨W, hW⟩ : ∃ W, W = (w.alloc (.deferred (some []))).alloc (.loop { state := .ready, pending := none, fn := fn, tmps := a.tmps, params := ps', assign := ca, body := cb, defers := w.heap.size }) := ⟨_, rfl⟩
  rw [← hW] at p3 p4 hle2
  refine ⟨w.heap.size + 1, [{ target := .collected w.heap.size, args := #[] }], W, { target := .fn (.func fid) caps', args := #[.func (.yield (w.heap.size + 1)) #[] #[]] }, W, fid, #[.func (.yield (w.heap.size + 1)) #[] #[]] ++ caps', W, ?_, ?_, fun _ _ => trivial, ?_, by simp [Fence.wide], ?_⟩
  · rw [hW]; simp [Instr.enterLoop, newObj, Sem.run, Result.andThen]; rfl
  · simp [resolve, rangeCall, e1, Deferred.ofValue]; simp [Act.eval]
  · exact invoke_run hfn hnm hbody
  refine callsIn_wd.2 ((hcall _ B _ _ p3 (by rw [Array.toList_append]; exact .cons hy (hcaps.mono hle2.le))).mono fun e w' ⟨r, v', H', σ', q1, q2, q3, q4, q5⟩ => ?_)
  subst q1
  obtain ⟨lr, hb, hst, hq⟩ := q3
  have hI : σ' (H.length + 1) = some ⟨w.heap.size + 1, 0, 0, 0, none⟩ := q4.le _ _ (Sg.push_self _ _ _)
  obtain ⟨hB, R, g1, hR⟩ := loop_at q5 hb hI
  obtain ⟨l1, l2, l3, l4, l5, l6, l7⟩ := hR
  have hnb : (R.state == .busy) = false := by
    rw [l1]
    have hne : lr.st ≠ 2 := by simpa using hst
    unfold stOf
    split <;> first | rfl | (exfalso; omega) | skip
    all_goals first | rfl | exact absurd rfl hne
  have hRe : LoopRel P σ' { lr with st := 3 } { R with state := .exhausted } := ⟨rfl, l2, l3, l4, l5, l6, l7⟩
  obtain ⟨u1, u2⟩ := loop_set q5 hb hI hRe hB g1
  have hmv := (hle2.trans q4).trans u2
  have hF' : FRel σ' N (F.defer (.map (some H.length))) { a with defers := [{ target := .collected w.heap.size, args := #[] }] ++ a.defers } := by
    have hF2 := hF.mono hmv.le
    have hitem : DItem σ' (.map (some H.length)) { target := .collected w.heap.size, args := #[] } := DItem.mark (I := ⟨w.heap.size, 0, 0, 0, none⟩) (q4.le _ _ (p4.le _ _ (Sg.push_self _ _ _)))
    refine ⟨hF2.1, hF2.2.1, ?_, fun s v hs hv => ?_⟩
    · have hD := hF2.2.2.1
      unfold Fr.defer
      cases hx : F.get dslot with
      | none => rw [hx] at hD; simp only [Fr.get_cons, if_true]; cases hD' : a.defers with
        | nil => exact .some (.cons hitem .nil)
        | cons _ _ => rw [hD'] at hD; cases hD
      | some u => rw [hx] at hD; cases hD with | some hi => simp only [Fr.get_cons, if_true]; exact .some (.cons hitem hi)
    · refine hF2.2.2.2 s v hs ?_
      unfold Fr.defer at hv
      split at hv <;> (rw [Fr.get_cons, if_neg (Ne.symm hs)] at hv; exact hv)
  have hend : (Instr.endLoop (w.heap.size + 1)).run P w' = .ok R.pending { w' with heap := w'.heap.setIfInBounds (w.heap.size + 1) (.loop { R with state := .exhausted }) } := by
    simp only [Instr.endLoop, Sem.run_bind, getLoop_run g1, Result.andThen_ok, hnb, Bool.false_eq_true, if_false, setObj_run g1, Sem.run_pure]
  refine ⟨R.pending, _, hend, ?_⟩
  have post : ∀ e, Q e (F.defer (.map (some H.length))) (H'.set (H.length + 1) (.obj (.loop { lr with st := 3 }))) → Post P B N σ w Q e { a with defers := [{ target := .collected w.heap.size, args := #[] }] ++ a.defers } { w' with heap := w'.heap.setIfInBounds (w.heap.size + 1) (.loop { R with state := .exhausted }) } := fun e hq => ⟨_, _, σ', hq, hmv, u1, hF'⟩
  generalize { w' with heap := w'.heap.setIfInBounds (w.heap.size + 1) (.loop { R with state := .exhausted }) } = w4 at post ⊢
  generalize H'.set (H.length + 1) (.obj (.loop { lr with st := 3 })) = H4 at post hq
  rw [l2]
  generalize lr.pend = pe at hq
  cases pe with
  | none => exact post _ hq
  | some e =>
    cases e with
    | normal => exact wpIn_skip (post _ hq)
    | ret => exact wpIn_ret (post _ hq)
    | exit i => exact wpIn_exit (post _ hq)
end
end Go.Wm
