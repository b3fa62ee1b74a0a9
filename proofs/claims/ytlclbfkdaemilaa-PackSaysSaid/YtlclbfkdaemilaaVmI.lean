/- Regions, statements and functions over the canonical heap. -/
import Derived.Test.YtlclbfkdaemilaaVmH
import Derived.Tactics
namespace Go.Vm
set_option linter.unusedSimpArgs false
set_option linter.unusedVariables false
open Go.RowKit

section
variable {P : Program} {σ : Sg} {B N : Nat} {H H' : Hp} {w : World} {a : Act} {E : Fr} {o : Oper} {v : VV}
theorem eff_ok {vo : VEf} (hc : compEff P o.op = some vo) (hH : HRel σ B H w) (hF : FRel σ N E a) (he : vo.ev E H = some (v, H')) : EffOk P σ B H' w a o v := by
  unfold compEff at hc
  split at hc
  case h_1 t x y ho =>
    split at hc
    · simp at hc; subst hc; exact eff_store ho (by assumption) (by assumption) (by assumption) hH hF he
    · cases hc
  case h_2 t ho =>
    split at hc
    · split at hc
      · simp at hc; subst hc; exact eff_alloc ho (by assumption) (by assumption) hH he
      · cases hc
    · cases hc
  case h_3 t x ho =>
    split at hc
    · simp at hc; subst hc; exact eff_box ho (by assumption) hH hF he
    · cases hc
  case h_4 t n ps ho =>
    split at hc
    · split at hc
      · split at hc
        · rename_i h
          simp at hc; subst hc; exact eff_mkrow ho (by assumption) (by assumption) (by assumption) (by assumption) h.1 h.2.1 h.2.2.1 h.2.2.2 hH hF he
        · cases hc
      · cases hc
    · cases hc
  case h_5 t l c ho =>
    split at hc
    · split at hc
      · split at hc
        · rename_i h
          simp at hc; subst hc; exact eff_mksl ho (by assumption) (by assumption) (by assumption) (by assumption) (by assumption) h.1 h.2.1 h.2.2 hH hF he
        · cases hc
      · cases hc
    · cases hc
  case h_6 t ho =>
    simp at hc; subst hc; exact eff_mkmap ho hH he
  case h_7 t m k x ho =>
    split at hc
    · split at hc
      · simp at hc; subst hc; exact eff_mset (.inl ho) (by assumption) (by assumption) (by assumption) (by assumption) (by assumption) hH hF he
      · cases hc
    · cases hc
  case h_8 t m k x ho =>
    split at hc
    · split at hc
      · simp at hc; subst hc; exact eff_mset (.inr ho) (by assumption) (by assumption) (by assumption) (by assumption) (by assumption) hH hF he
      · cases hc
    · cases hc
  case h_9 t x ho =>
    split at hc
    · simp at hc; subst hc; exact eff_rng ho (by assumption) (by assumption) hH hF he
    · cases hc
  case h_10 c ho =>
    split at hc
    · split at hc
      · split at hc
        · split at hc
          · split at hc
            · rename_i h
              simp at hc; subst hc; exact eff_app ho (by assumption) (by assumption) (by assumption) (by assumption) (by assumption) (by simp) (by assumption) (by assumption) h.1 h.2.1 h.2.2 (by assumption) (by assumption) hH hF he
            · cases hc
          · cases hc
        · cases hc
      · split at hc
        · split at hc
          · split at hc
            · rename_i h
              simp at hc; subst hc; exact eff_app ho (by assumption) (by assumption) (by assumption) (by assumption) (by assumption) (by simp) (by assumption) (by assumption) h.1 h.2.1 h.2.2 (by assumption) (by assumption) hH hF he
            · cases hc
          · cases hc
        · cases hc
      · cases hc
    · cases hc
  · cases hc
end

/-! ### instructions -/
inductive VI where
  | rd (d : Nat) (g : Option (Nat × Bool)) (x : VOp)
  | ef (d : Option Nat) (g : Option (Nat × Bool)) (x : VEf)
  | call (d : Option Nat) (g : Option (Nat × Bool)) (f : Od) (args : List Od)
  | nx (d : Nat) (g : Option (Nat × Bool)) (x : Od)

def compG (ops : Array Oper) (N : Nat) : Option (Nat × Bool) → Option (Option (Nat × Bool))
  | none => some none
  | some (j, b) => match (ops[j]?).bind (·.dst) with | some s => if s < N then some (some (s, b)) else none | none => none
def dstOk (N : Nat) : Option Nat → Bool
  | none => true
  | some d => decide (d < N)
def compI (P : Program) (N : Nat) (ops : Array Oper) (o : Oper) : Option VI :=
  match compG ops N o.guard with
  | none => none
  | some g => if dstOk N o.dst = false then none else
    match compRead P o.op, o.dst with
    | some x, some d => some (.rd d g x)
    | some _, none => none
    | none, _ => match compEff P o.op with
      | some x => some (.ef o.dst g x)
      | none => match o.op with
        | .call c => match c.callee with
          | .value f => match compOd f, c.args.toList.mapM compOd with
            | some f, some l => some (.call o.dst g f l)
            | _, _ => none
          | _ => none
        | .next x false => match compOd x, o.dst with | some x, some d => some (.nx d g x) | _, _ => none
        | _ => none
def compL (P : Program) (N : Nat) (ops : Array Oper) : List Oper → Option (List VI)
  | [] => some []
  | o :: r => match compI P N ops o, compL P N ops r with | some x, some l => some (x :: l) | _, _ => none

/-- is it to be done? -/
def want (E : Fr) : Option (Nat × Bool) → Option Bool
  | none => some true
  | some (s, b) => match E.get s with | some (.bool c) => some (c == b) | some (.tup []) => some false | _ => none
def Fr.pt (E : Fr) (d : Option Nat) (v : VV) : Fr := match d with | some s => (s, v) :: E | none => E

theorem FRel.pt {σ : Sg} {N : Nat} {F : Fr} {a : Act} (h : FRel σ N F a) {d : Option Nat} (hd : dstOk N d = true) {v : VV} {v' : Value} (hv : VRel σ v v') : FRel σ N (F.pt d v) (a.put d v') := by
  cases d with
  | none => exact h
  | some d => exact h.put (by simpa [dstOk] using hd) hv

theorem want_ok {σ : Sg} {N : Nat} {E : Fr} {a : Act} {ops : Array Oper} {o : Oper} {g : Option (Nat × Bool)} (hg : compG ops N o.guard = some g) (hF : FRel σ N E a) {b : Bool} (hw : want E g = some b) : Region.wanted o (yielded ops a.tmps) = b := by
  unfold compG at hg
  cases hgo : o.guard with
  | none => rw [hgo] at hg; simp at hg; subst hg; simp [want] at hw; subst hw; simp [Region.wanted, hgo]
  | some jb =>
    obtain ⟨j, c⟩ := jb
    rw [hgo] at hg
    simp only at hg
    split at hg
    case h_2 => cases hg
    rename_i s hs
    split at hg
    case isFalse => cases hg
    rename_i hsN
    simp at hg; subst hg
    simp only [want] at hw
    have hsz : s < a.tmps.size := by rw [hF.1]; exact hsN
    split at hw
    · rename_i c' he
      simp at hw; subst hw
      have r := hF.2.2 _ _ he
      generalize hx : a.tmps.getD s undef = x at r
      cases r
      have hx' : a.tmps[s]? = some (.bool c') := by
        rw [Array.getD_eq_getD_getElem?, Array.getElem?_eq_getElem hsz] at hx
        rw [Array.getElem?_eq_getElem hsz]
        simpa using hx
      simp only [Region.wanted, hgo, yielded, hs, Option.bind_some, hx']
      cases c' <;> cases c <;> rfl
    · rename_i he
      simp at hw; subst hw
      have r := hF.2.2 _ _ he
      generalize hx : a.tmps.getD s undef = x at r
      cases r with
      | tup hl =>
        rename_i cs'
        have hcs : cs' = #[] := by
          cases hl' : cs'.toList with
          | nil => exact Array.toList_eq_nil_iff.1 hl'
          | cons y l => rw [hl'] at hl; cases hl
        subst hcs
        have hx' : a.tmps[s]? = some (.tuple #[]) := by
          rw [Array.getD_eq_getD_getElem?, Array.getElem?_eq_getElem hsz] at hx
          rw [Array.getElem?_eq_getElem hsz]
          simpa using hx
        simp only [Region.wanted, hgo, yielded, hs, Option.bind_some, hx']
        rfl
    · cases hw

/-! ### what a run comes to -/
abbrev VQ := Exit → Fr → Hp → Prop
def Post (B N : Nat) (σ : Sg) (w : World) (Q : VQ) : Exit → Act → World → Prop :=
  fun e a' w' => ∃ F' H' σ', Q e F' H' ∧ σ.le σ' ∧ HRel σ' B H' w' ∧ FRel σ' N F' a' ∧ Below B w w'
theorem Post.lift {B N : Nat} {σ τ : Sg} {w w1 : World} {Q : VQ} (hl : σ.le τ) (hb : Below B w w1) {e : Exit} {a' : Act} {w' : World} (h : Post B N τ w1 Q e a' w') : Post B N σ w Q e a' w' :=
  let ⟨F', H', σ', h1, h2, h3, h4, h5⟩ := h
  ⟨F', H', σ', h1, Sg.le_trans hl h2, h3, h4, hb.trans h5⟩
theorem Post.mono {B N : Nat} {σ : Sg} {w : World} {Q Q' : VQ} (hq : ∀ e F H, Q e F H → Q' e F H) {e : Exit} {a' : Act} {w' : World} (h : Post B N σ w Q e a' w') : Post B N σ w Q' e a' w' :=
  let ⟨F', H', σ', h1, h2⟩ := h
  ⟨F', H', σ', hq _ _ _ h1, h2⟩

/-- a function, called in a canonical heap -/
def FnV (P : Program) (f : FuncId) (args : List VV) (H : Hp) (R : VV → Hp → Prop) : Prop :=
  (∃ fn, P.funcs[f]? = some fn ∧ (fn.name == "runtime.NumGoroutine") = false ∧ fn.body.isSome = true) ∧
  ∀ σ B w (vs : Array Value), HRel σ B H w → LRel σ args vs.toList → Calls P f vs w fun e w' => ∃ r v' H' σ', e = .returned v' ∧ VRel σ' r v' ∧ R r H' ∧ σ.le σ' ∧ HRel σ' B H' w' ∧ Below B w w'
theorem FnV.mono {P : Program} {f : FuncId} {args : List VV} {H : Hp} {R R' : VV → Hp → Prop} (h : FnV P f args H R) (hr : ∀ r H', R r H' → R' r H') : FnV P f args H R' :=
  ⟨h.1, fun σ B w vs h1 h2 => (h.2 σ B w vs h1 h2).mono fun e w' ⟨r, v', H', σ', q1, q2, q3, q4⟩ => ⟨r, v', H', σ', q1, q2, hr _ _ q3, q4⟩⟩

/-- a list of operations of a region that goes in the text's order -/
def VOps (P : Program) (B N : Nat) (l : List VI) (E : Fr) (H : Hp) (Q : VQ) : Prop :=
  ∀ (ops : Array Oper) (os : List Oper), compL P N ops os = some l → ∀ σ w a, HRel σ B H w → FRel σ N E a → wpList P ops (Post B N σ w Q) os a w

section
variable {P : Program} {B N : Nat} {E : Fr} {H : Hp} {Q : VQ} {l : List VI}

theorem operWp_mono {o : Oper} {a : Act} {w : World} {K K' : Act → World → Prop} {Q1 Q2 : Exit → Act → World → Prop} (hk : ∀ a w, K a w → K' a w) (hq : ∀ e a w, Q1 e a w → Q2 e a w)
    (hh : o.wp P a w K Q1) : o.wp P a w K' Q2 := by
  unfold Oper.wp at *
  generalize (execOp a.eval o).run P w = r at *
  cases r with
  | ok n w' =>
    cases n <;> simp only [Oper.upon] at hh ⊢
    case value => exact hk _ _ hh
    case skip => exact hk _ _ hh
    case defer => exact hk _ _ hh
    case enter f args =>
      refine hh.mono fun e w'' h => ?_
      cases e with
      | returned v => exact hk _ _ h
      | panicked ch => exact hq _ _ _ h
      | outgrown => obtain ⟨a, w, h⟩ := h; exact ⟨a, w, hq _ _ _ h⟩
    case row => exact hh.mono fun v w'' h => hk _ _ h
  | halt x w' => cases x <;> simp only [Oper.upon] at hh ⊢; exact hq _ _ _ hh

theorem wpList_mono {ops : Array Oper} {Q1 Q2 : Exit → Act → World → Prop} (hq : ∀ e a w, Q1 e a w → Q2 e a w) : ∀ (os : List Oper) (a : Act) (w : World), wpList P ops Q1 os a w → wpList P ops Q2 os a w
  | [], a, w, h => hq _ _ _ h
  | o :: os, a, w, h => by
    unfold wpList at h ⊢
    split
    · rename_i hw
      rw [if_pos hw] at h
      rcases h with h | ⟨h, h'⟩
      · exact .inl (operWp_mono (fun a w h => wpList_mono hq os a w h) hq h)
      · exact .inr ⟨h, let ⟨a, w, h⟩ := h'; ⟨a, w, hq _ _ _ h⟩⟩
    · rename_i hw
      rw [if_neg hw] at h
      exact wpList_mono hq os _ _ h

theorem VOps.nil (h : Q .normal E H) : VOps P B N [] E H Q := by
  intro ops os hc σ w a hH hF
  cases os with
  | nil => exact ⟨E, H, σ, h, Sg.le_refl _, hH, hF, Below.refl _ _⟩
  | cons o os => unfold compL at hc; split at hc <;> cases hc

theorem compL_cons {ops : Array Oper} {os : List Oper} {x : VI} (h : compL P N ops os = some (x :: l)) : ∃ o os', os = o :: os' ∧ compI P N ops o = some x ∧ compL P N ops os' = some l := by
  cases os with
  | nil => simp [compL] at h
  | cons o os =>
    unfold compL at h
    split at h
    · rename_i h1 h2; simp at h; obtain ⟨rfl, rfl⟩ := h; exact ⟨o, os, rfl, h1, h2⟩
    · cases h

/-- what a compiled operation is -/
theorem compI_inv {ops : Array Oper} {o : Oper} {x : VI} (h : compI P N ops o = some x) : dstOk N o.dst = true ∧
    match x with
    | .rd d g y => compG ops N o.guard = some g ∧ o.dst = some d ∧ compRead P o.op = some y
    | .ef d g y => compG ops N o.guard = some g ∧ o.dst = d ∧ compEff P o.op = some y
    | .call d g f args => compG ops N o.guard = some g ∧ o.dst = d ∧ ∃ c fo, o.op = .call c ∧ c.callee = .value fo ∧ compOd fo = some f ∧ c.args.toList.mapM compOd = some args
    | .nx d g y => compG ops N o.guard = some g ∧ o.dst = some d ∧ ∃ x, o.op = .next x false ∧ compOd x = some y := by
  unfold compI at h
  split at h
  · cases h
  · rename_i g hg
    split at h
    · cases h
    · rename_i hd
      refine ⟨by simpa using hd, ?_⟩
      split at h
      · rename_i y d h1 h2; simp at h; subst h; exact ⟨hg, h2, h1⟩
      · cases h
      · split at h
        · rename_i y h1; simp at h; subst h; exact ⟨hg, rfl, h1⟩
        · split at h
          · rename_i c ho
            split at h
            · rename_i fo hfo
              split at h
              · rename_i f l' h1 h2; simp at h; subst h; exact ⟨hg, rfl, c, fo, ho, hfo, h1, h2⟩
              · cases h
            · cases h
          · rename_i x ho
            split at h
            · rename_i y d h1 h2; simp at h; subst h; exact ⟨hg, h2, x, ho, h1⟩
            · cases h
          · cases h

/-- an operation that is passed over -/
theorem VOps.skip {x : VI} {d : Option Nat} {g : Option (Nat × Bool)} (hx : (∃ y s, x = .rd s g y ∧ d = some s) ∨ (∃ y, x = .ef d g y) ∨ (∃ f ar, x = .call d g f ar)) (hw : want E g = some false)
    (h : VOps P B N l (E.pt d (.tup [])) H Q) : VOps P B N (x :: l) E H Q := by
  intro ops os hc σ w a hH hF
  obtain ⟨o, os', rfl, h1, h2⟩ := compL_cons hc
  obtain ⟨hd, hi⟩ := compI_inv h1
  have key : compG ops N o.guard = some g ∧ o.dst = d := by
    rcases hx with ⟨y, s, rfl, rfl⟩ | ⟨y, rfl⟩ | ⟨f, ar, rfl⟩
    · exact ⟨hi.1, hi.2.1⟩
    · exact ⟨hi.1, hi.2.1⟩
    · exact ⟨hi.1, hi.2.1⟩
  have hwant := want_ok key.1 hF hw
  unfold wpList
  rw [if_neg (by rw [hwant]; simp), key.2]
  exact h ops os' h2 σ w _ hH (hF.pt (by rw [← key.2]; exact hd) (.tup (cs' := #[]) .nil))

theorem VOps.skn {d : Nat} {g : Option (Nat × Bool)} {y : Od} (hw : want E g = some false) (h : VOps P B N l ((d, .tup []) :: E) H Q) : VOps P B N (.nx d g y :: l) E H Q := by
  intro ops os hc σ w a hH hF
  obtain ⟨o, os', rfl, h1, h2⟩ := compL_cons hc
  obtain ⟨hd, hi⟩ := compI_inv h1
  have hwant := want_ok hi.1 hF hw
  unfold wpList
  rw [if_neg (by rw [hwant]; simp), hi.2.1]
  have hdN : d < N := by rw [hi.2.1] at hd; simpa [dstOk] using hd
  exact h ops os' h2 σ w _ hH (hF.put hdN (.tup (cs' := #[]) .nil))

theorem VOps.rd {d : Nat} {g : Option (Nat × Bool)} {x : VOp} {v : VV} (hw : want E g = some true) (he : x.ev E H = some v) (h : VOps P B N l ((d, v) :: E) H Q) : VOps P B N (.rd d g x :: l) E H Q := by
  intro ops os hc σ w a hH hF
  obtain ⟨o, os', rfl, h1, h2⟩ := compL_cons hc
  obtain ⟨hd, hg, hdst, hr⟩ := compI_inv h1
  obtain ⟨v', hv, hrun⟩ := read_ok hr hH hF he
  unfold wpList
  rw [if_pos (want_ok hg hF hw)]
  left
  unfold Oper.wp
  rw [hrun w (Below.refl _ _)]
  simp only [Oper.upon, hdst]
  have hdN : d < N := by rw [hdst] at hd; simpa [dstOk] using hd
  exact h ops os' h2 σ w _ hH (hF.put hdN hv)

theorem VOps.ef {d : Option Nat} {g : Option (Nat × Bool)} {x : VEf} {v : VV} {H' : Hp} (hw : want E g = some true) (he : x.ev E H = some (v, H')) (h : VOps P B N l (E.pt d v) H' Q) : VOps P B N (.ef d g x :: l) E H Q := by
  intro ops os hc σ w a hH hF
  obtain ⟨o, os', rfl, h1, h2⟩ := compL_cons hc
  obtain ⟨hd, hg, hdst, hr⟩ := compI_inv h1
  obtain ⟨σ', v', w', q1, q2, q3, q4, hrun⟩ := eff_ok hr hH hF he
  unfold wpList
  rw [if_pos (want_ok hg hF hw)]
  left
  unfold Oper.wp
  have fin : wpList P ops (Post B N σ w Q) os' (a.put o.dst v') w' := by
    rw [hdst]
    exact wpList_mono (fun e a w hp => hp.lift q1 q4) _ _ _ (h ops os' h2 σ' w' _ q2 ((hF.mono q1).pt (by rw [← hdst]; exact hd) q3))
  rcases hrun with hrun | ⟨hrun, hu⟩
  · rw [hrun]; exact fin
  · rw [hrun]; simp only [Oper.upon]; rw [← hu]; exact fin

theorem VOps.call {d : Option Nat} {g : Option (Nat × Bool)} {fo : Od} {ar : List Od} {f : FuncId} {caps vs : List VV} (hw : want E g = some true) (hf : fo.ev E = some (.fn f caps)) (hv : Od.evs E ar = some vs)
    (h : FnV P f (vs ++ caps) H fun r H' => VOps P B N l (E.pt d r) H' Q) : VOps P B N (.call d g fo ar :: l) E H Q := by
  intro ops os hc σ w a hH hF
  obtain ⟨o, os', rfl, h1, h2⟩ := compL_cons hc
  obtain ⟨hd, hg, hdst, c, fop, ho, hcal, hcf, hca⟩ := compI_inv h1
  obtain ⟨⟨fn, hfn, hnm, hbody⟩, hcall⟩ := h
  obtain ⟨caps', e1, hcaps⟩ := fn_inv (compOd_ok hcf hF hf)
  have hargs := evs_rel hca hF hv
  unfold wpList
  rw [if_pos (want_ok hg hF hw)]
  left
  unfold Oper.wp
  have hb : ¬ fn.body = none := by intro hh; rw [hh] at hbody; cases hbody
  have hnm' : ¬ fn.name = "runtime.NumGoroutine" := by simpa using hnm
  have hrun : (execOp a.eval o).run P w = .ok (.enter f (c.args.map a.eval ++ caps')) w := by
    simp [execOp, ho, resolve, hcal, e1, Deferred.ofValue, invoke, callFunc, hfn, hnm', hb]
  rw [hrun]
  simp only [Oper.upon]
  have hl : LRel σ (vs ++ caps) (c.args.map a.eval ++ caps').toList := by
    rw [Array.toList_append, Array.toList_map]; exact hargs.append hcaps
  refine (hcall σ B w _ hH hl).mono fun e w' ⟨r, v', H', σ', q1, q2, q3, q4, q5, q6⟩ => ?_
  subst q1
  rw [hdst]
  exact wpList_mono (fun e a w hp => hp.lift q4 q6) _ _ _ (q3 ops os' h2 σ' w' _ q5 ((hF.mono q4).pt (by rw [← hdst]; exact hd) q2))

/-- what 'next' comes to, wherever the iterator lies: nothing is left, or one entry that is left, whichever -/
theorem run_next_at (w : World) (ty : TypeId) (r bm since : Nat) (seen : Array Nat) (es : Array MapEntry) (clock : Nat) (hr : w.heap[r]? = some (.mapIter (some bm) since seen since)) (hb : w.heap[bm]? = some (.map es clock)) (hold : ∀ x ∈ es.toList, x.born < since) :
    ((leftOf es seen).size = 0 ∧ (Instr.next (.pointer (some ⟨r, 0, none⟩)) false ty).run P w = .ok (.tuple #[.bool false]) w) ∨
    ∃ e ∈ (leftOf es seen).toList, ∃ w1 : World, (w1 = w ∨ w1 = w.drew) ∧ (Instr.next (.pointer (some ⟨r, 0, none⟩)) false ty).run P w = .ok (.tuple #[.bool true, e.key, e.val]) { w1 with heap := w1.heap.setIfInBounds r (.mapIter (some bm) since (seen.push e.born) clock) } := by
  simp only [Instr.next, getObj, Sem.run_bind, Sem.run, hr, hb, Result.andThen, next_test_false seen es since since hold (Nat.le_refl _), Bool.false_eq_true, if_false]
  unfold leftOf
  have hmem : ∀ x ∈ (Array.filter (fun e => !seen.contains e.born) es).toList, x.born < since := fun x hx => hold x (by simp at hx ⊢; exact hx.1)
  generalize Array.filter (fun e => !seen.contains e.born) es = L at hmem ⊢
  have e1 : L.filter (fun x => decide (x.born < since)) = L := Array.filter_eq_self.2 (fun x hx => by simpa using hmem x (by simpa using hx))
  have e2 : L.filter (fun x => decide (x.born ≥ since)) = #[] := by
    rw [Array.filter_eq_empty_iff]
    intro x hx
    have := hmem x (by simpa using hx)
    simp
    omega
  simp only [e1, e2, Array.append_empty]
  by_cases h0 : L.size = 0
  · left
    have : L = #[] := Array.eq_empty_of_size_eq_zero h0
    subst this
    refine ⟨rfl, ?_⟩
    simp [choose, Sem.run, Question.forced]
  · right
    have hne : L.isEmpty = false := by simp [Array.isEmpty, h0]
    simp only [hne, Bool.false_eq_true, if_false, Array.empty_append, Array.size_map]
    have hch : ∃ (j : Nat) (w1 : World), j < L.size ∧ (w1 = w ∨ w1 = w.drew) ∧ (choose (Question.mapNext L.size)).run P w = .ok j w1 := by
      by_cases hf : L.size ≤ 1
      · exact ⟨0, w, by omega, .inl rfl, by simp [choose, Sem.run, Question.forced, hf]⟩
      · exact ⟨_, w.drew, Nat.mod_lt _ (by omega), .inr rfl, by
          simp only [choose, Sem.run, Question.forced, decide_eq_true_eq, hf, if_false, Question.cut]
          rfl⟩
    obtain ⟨j, w1, hj, hal, hrun⟩ := hch
    refine ⟨L[j], by simp, w1, hal, ?_⟩
    have hr1 : w1.heap[r]? = some (.mapIter (some bm) since seen since) := by rcases hal with rfl | rfl <;> exact hr
    simp only [hrun, Array.getElem?_map, Array.getElem?_eq_getElem hj, Option.map_some, Sem.run_bind, setObj, Sem.run, hr1, Result.andThen]
    rfl

theorem VOps.nx {d : Nat} {g : Option (Nat × Bool)} {x : Od} {b m n : Nat} {seen : List Nat} {es : List (VV × VV)} (hw : want E g = some true) (hx : x.ev E = some (.ptr (some ⟨b, 0, 0⟩))) (hb : H[b]? = some (.obj (.iter m n seen))) (hm : H[m]? = some (.obj (.map es))) (hn : es.length = n)
    (hover : (∀ i, i < n → i ∈ seen) → VOps P B N l ((d, .tup [.bool false]) :: E) H Q)
    (hnext : ∀ i e, i ∉ seen → es[i]? = some e → VOps P B N l ((d, .tup [.bool true, e.1, e.2]) :: E) (H.set b (.obj (.iter m n (seen ++ [i])))) Q) : VOps P B N (.nx d g x :: l) E H Q := by
  intro ops os hc σ w a hH hF
  obtain ⟨o, os', rfl, h1, h2⟩ := compL_cons hc
  obtain ⟨hd, hg, hdst, xo, ho, hxo⟩ := compI_inv h1
  have hdN : d < N := by rw [hdst] at hd; simpa [dstOk] using hd
  obtain ⟨ad, e1, J, hJ, had⟩ := ptr_inv (compOd_ok hxo hF hx)
  obtain ⟨I, hob, i1, i2, i3, i4, i5⟩ := hH.objs _ _ hb
  have : I = J := Option.some.inj (i1.symm.trans hJ)
  subst this
  cases hob <;> simp only [ObRel] at i5
  rename_i rm since s st
  obtain ⟨⟨K, k1, rfl⟩, k2, k3, k4⟩ := i5
  rw [k2, k3] at i4
  obtain ⟨hBm, hlt, cur, hcur, hent, hborn⟩ := obj_at hH hm k1
  have had0 : ad = ⟨I.real, 0, none⟩ := by rw [had, i3]; simp
  have hcs : cur.size = es.length := by have := hent.1; simpa using this.symm
  have hold : ∀ x ∈ cur.toList, x.born < n := fun x hx => by
    obtain ⟨k, hk, rfl⟩ := List.getElem_of_mem hx
    have := hborn k cur.toList[k] (by rw [← Array.getElem?_toList]; exact List.getElem?_eq_getElem hk)
    rw [this]; simp at hk; omega
  have hex : ∀ u w2, (Instr.next (.pointer (some ⟨I.real, 0, none⟩)) false o.type).run P w = .ok u w2 → (execOp a.eval o).run P w = .ok (.value u) w2 := fun u w2 h => by
    simp [execOp, ho, e1, had0, h, Result.andThen]
  unfold wpList
  rw [if_pos (want_ok hg hF hw)]
  left
  unfold Oper.wp
  rcases run_next_at (P := P) w o.type I.real K.real n s cur es.length i4 hcur hold with ⟨h0, hrun⟩ | ⟨en, hen, w1, hw1, hrun⟩
  · rw [hex _ _ hrun]
    simp only [Oper.upon, hdst]
    refine hover (fun i hi => ?_) ops os' h2 σ w _ hH (hF.put hdN (.tup (cs' := #[.bool false]) (.cons (.bool _) .nil)))
    have hemp : leftOf cur s = #[] := Array.eq_empty_of_size_eq_zero h0
    unfold leftOf at hemp
    rw [Array.filter_eq_empty_iff] at hemp
    have hi2 : i < cur.size := by omega
    have := hemp cur[i] (Array.getElem_mem hi2)
    rw [hborn i cur[i] (Array.getElem?_eq_getElem hi2)] at this
    rw [← k4]
    simpa using this
  · rw [hex _ _ hrun]
    simp only [Oper.upon, hdst]
    have hen2 : en ∈ cur.toList ∧ en.born ∉ s.toList := by
      unfold leftOf at hen
      simp at hen
      exact ⟨by simpa using hen.1, by simpa using hen.2⟩
    obtain ⟨k, hk, hke⟩ := List.getElem_of_mem hen2.1
    have hk2 : k < es.length := by simp at hk; omega
    obtain ⟨e', f1, f2, f3⟩ := hent.2 k _ (List.getElem?_eq_getElem hk2)
    rw [List.getElem?_eq_getElem hk] at f1
    have : e' = en := by simp at f1; rw [← f1]; simpa using hke
    subst this
    have hbk : e'.born = k := hborn k e' (by rw [← Array.getElem?_toList, List.getElem?_eq_getElem hk, hke])
    have hH1 : HRel σ B H w1 := by rcases hw1 with rfl | rfl; exact hH; exact hH.heap_eq rfl
    have hB1 : Below B w w1 := by rcases hw1 with rfl | rfl; exact Below.refl _ _; exact (Below.refl _ _).drew
    have hsz1 : w1.heap = w.heap := by rcases hw1 with rfl | rfl <;> rfl
    have hlt1 : I.real < w1.heap.size := by rw [hsz1]; exact (Array.getElem?_eq_some_iff.1 i4).1
    have hset := hH1.setObj (o' := .iter m n (seen ++ [k])) hb i1 (w' := { w1 with heap := w1.heap.setIfInBounds I.real (.mapIter (some K.real) n (s.push e'.born) es.length) }) (ho := .mapIter (some K.real) n (s.push e'.born) es.length) (by simp) (by simp [hlt1]) (fun z hz => by rw [Array.getElem?_setIfInBounds_ne (Ne.symm hz)]) rfl
      ⟨⟨K, k1, rfl⟩, rfl, hn, by simp [k4, hbk]⟩ (Below.putObj i2 _)
    exact wpList_mono (fun e a w hp => hp.lift (Sg.le_refl _) (hB1.trans (Below.putObj i2 _))) _ _ _ (hnext k _ (by rw [← k4, ← hbk]; exact hen2.2) (List.getElem?_eq_getElem hk2) ops os' h2 σ _ _ hset (hF.put hdN (.tup (cs' := #[.bool true, e'.key, e'.val]) (.cons (.bool _) (.cons f2 (.cons f3 .nil))))))
end
end Go.Vm
