/- Regions over the canonical heap: what a list of operations comes to. -/
import Derived.Test.YtbcaceeiehjplacGreatDoorWmJ
namespace Go.Wm
set_option linter.unusedSimpArgs false
set_option linter.unusedVariables false
open Go.RowKit

/-- no fence; 'ro': the round of a loop over a function in which the code stands -/
abbrev Wd (ro : Option Nat) : Fence := { Fence.wide with round := ro }
theorem callsIn_wd {ro : Option Nat} {n : Nat} {P : Program} {f : FuncId} {args : Array Value} {w : World} {R : Ending → World → Prop} : CallsIn (Wd ro) n P f args w R ↔ Calls P f args w R :=
  ⟨fun h => callsIn_wide.1 (show CallsIn Fence.wide n P f args w R from h), fun h => show CallsIn Fence.wide n P f args w R from callsIn_wide.2 h⟩

section
variable {P : Program} {σ : Sg} {B N : Nat} {H : Hp} {w : World} {a : Act} {E : Fr} {o : Oper} {v : VV}

theorem FRel.pt {F : Fr} (h : FRel σ N F a) {d : Option Nat} (hd : dstOk N d = true) {v : VV} {v' : Value} (hv : VRel σ v v') : FRel σ N (F.pt d v) (a.put d v') := by
  cases d with
  | none => exact h
  | some d => exact h.put (by simpa [dstOk] using hd) hv

theorem want_ok {ops : Array Oper} {g : Option (Nat × Bool)} (hg : compG ops N o.guard = some g) (hF : FRel σ N E a) {b : Bool} (hw : want E g = some b) : Region.wanted o (yielded ops a.tmps) = b := by
  unfold compG at hg
  cases hgo : o.guard with
  | none => rw [hgo] at hg; simp at hg; subst hg; simp [want] at hw; subst hw; simp [Region.wanted, hgo]
  | some jb =>
    obtain ⟨j, c⟩ := jb
    rw [hgo] at hg
    simp only at hg
    split at hg
    case h_2 => cases hg
    rename_i s hs
    split at hg
    case isFalse => cases hg
    rename_i hsN
    simp at hg; subst hg
    simp only [want] at hw
    have hsz : s < a.tmps.size := by rw [hF.1]; exact hsN
    have hsd : s ≠ dslot := Nat.ne_of_lt (Nat.lt_of_lt_of_le hsN hF.2.1.1)
    split at hw
    · rename_i c' he
      simp at hw; subst hw
      have r := hF.2.2.2 _ _ hsd he
      generalize hx : a.tmps.getD s undef = x at r
      cases r
      have hx' : a.tmps[s]? = some (.bool c') := by
        rw [Array.getD_eq_getD_getElem?, Array.getElem?_eq_getElem hsz] at hx
        rw [Array.getElem?_eq_getElem hsz]
        simpa using hx
      simp only [Region.wanted, hgo, yielded, hs, Option.bind_some, hx']
      cases c' <;> cases c <;> rfl
    · rename_i he
      simp at hw; subst hw
      have r := hF.2.2.2 _ _ hsd he
      generalize hx : a.tmps.getD s undef = x at r
      cases r with
      | tup hl =>
        rename_i cs'
        have hcs : cs' = #[] := by
          cases hl' : cs'.toList with
          | nil => exact Array.toList_eq_nil_iff.1 hl'
          | cons y l => rw [hl'] at hl; cases hl
        subst hcs
        have hx' : a.tmps[s]? = some (.tuple #[]) := by
          rw [Array.getD_eq_getD_getElem?, Array.getElem?_eq_getElem hsz] at hx
          rw [Array.getElem?_eq_getElem hsz]
          simpa using hx
        simp only [Region.wanted, hgo, yielded, hs, Option.bind_some, hx']
        rfl
    · cases hw
end

/-! ### what a run comes to -/
abbrev VQ := Exit → Fr → Hp → Prop
def Post (P : Program) (B N : Nat) (σ : Sg) (w : World) (Q : VQ) : Exit → Act → World → Prop :=
  fun e a' w' => ∃ F' H' σ', Q e F' H' ∧ Mv B σ σ' w w' ∧ HRel P σ' B H' w' ∧ FRel σ' N F' a'
theorem Post.lift {P : Program} {B N : Nat} {σ τ : Sg} {w w1 : World} {Q : VQ} (hm : Mv B σ τ w w1) {e : Exit} {a' : Act} {w' : World} (h : Post P B N τ w1 Q e a' w') : Post P B N σ w Q e a' w' :=
  let ⟨F', H', σ', h1, h2, h3, h4⟩ := h
  ⟨F', H', σ', h1, hm.trans h2, h3, h4⟩
theorem Post.mono {P : Program} {B N : Nat} {σ : Sg} {w : World} {Q Q' : VQ} (hq : ∀ e F H, Q e F H → Q' e F H) {e : Exit} {a' : Act} {w' : World} (h : Post P B N σ w Q e a' w') : Post P B N σ w Q' e a' w' :=
  let ⟨F', H', σ', h1, h2⟩ := h
  ⟨F', H', σ', hq _ _ _ h1, h2⟩

/-- what a call comes to -/
def Ret (P : Program) (B : Nat) (σ : Sg) (w : World) (R : VV → Hp → Prop) (e : Ending) (w' : World) : Prop :=
  ∃ r v' H' σ', e = .returned v' ∧ VRel σ' r v' ∧ R r H' ∧ Mv B σ σ' w w' ∧ HRel P σ' B H' w'
theorem Ret.mono {P : Program} {B : Nat} {σ : Sg} {w : World} {R R' : VV → Hp → Prop} (hr : ∀ r H, R r H → R' r H) {e : Ending} {w' : World} (h : Ret P B σ w R e w') : Ret P B σ w R' e w' :=
  let ⟨r, v', H', σ', q1, q2, q3, q4⟩ := h; ⟨r, v', H', σ', q1, q2, hr _ _ q3, q4⟩
/-- a function, called in a canonical heap -/
def FnV (P : Program) (f : FuncId) (args : List VV) (H : Hp) (R : VV → Hp → Prop) : Prop :=
  (∃ fn, P.funcs[f]? = some fn ∧ (fn.name == "runtime.NumGoroutine") = false ∧ fn.body.isSome = true) ∧
  ∀ σ B w (vs : Array Value), HRel P σ B H w → LRel σ args vs.toList → Calls P f vs w (Ret P B σ w R)
theorem FnV.mono {P : Program} {f : FuncId} {args : List VV} {H : Hp} {R R' : VV → Hp → Prop} (h : FnV P f args H R) (hr : ∀ r H', R r H' → R' r H') : FnV P f args H R' :=
  ⟨h.1, fun σ B w vs h1 h2 => (h.2 σ B w vs h1 h2).mono fun e w' h => h.mono hr⟩
/-- yield, called in a canonical heap -/
def YldV (P : Program) (b : Nat) (args : List VV) (H : Hp) (R : VV → Hp → Prop) : Prop :=
  ∀ σ B w (vs : Array Value) I, HRel P σ B H w → LRel σ args vs.toList → σ b = some I →
    ∃ fn tmps assign body, (Instr.yield I.real vs).run P w = .ok (.round I.real fn tmps assign body) w ∧ RoundIn Fence.wide 0 P I.real fn tmps assign body w (Ret P B σ w R)
theorem YldV.mono {P : Program} {b : Nat} {args : List VV} {H : Hp} {R R' : VV → Hp → Prop} (h : YldV P b args H R) (hr : ∀ r H', R r H' → R' r H') : YldV P b args H R' :=
  fun σ B w vs I h1 h2 h3 => let ⟨fn, tmps, as, bd, q1, q2⟩ := h σ B w vs I h1 h2 h3; ⟨fn, tmps, as, bd, q1, q2.mono fun e w' h => h.mono hr⟩

/-- a list of operations of a region that goes in the text's order; 'rd': in a round -/
def VOps (P : Program) (B N : Nat) (rd : Bool) (l : List VI) (E : Fr) (H : Hp) (Q : VQ) : Prop :=
  ∀ ro, (rd = false → ro = none) → ∀ (ops : Array Oper) (os : List Oper), compL P N ops os = some l → ∀ σ w a, HRel P σ B H w → FRel σ N E a → wpListIn (Wd ro) 0 P ops (Post P B N σ w Q) os a w

section
variable {P : Program} {B N : Nat} {rn : Bool} {E : Fr} {H : Hp} {Q : VQ} {l : List VI}

theorem operWpIn_mono {F : Fence} {n : Nat} {o : Oper} {a : Act} {w : World} {K K' : Act → World → Prop} {Q1 Q2 : Exit → Act → World → Prop} (hk : ∀ a w, K a w → K' a w) (hq : ∀ e a w, Q1 e a w → Q2 e a w)
    (hh : o.wpIn F n P a w K Q1) : o.wpIn F n P a w K' Q2 := by
  unfold Oper.wpIn at *
  refine ⟨hh.1, ?_⟩
  have hh := hh.2
  generalize (o.semAt F.round a.eval).run P w = r at *
  have hout : LetsOut Q1 → LetsOut Q2 := fun ⟨a, w, h⟩ => ⟨a, w, hq _ _ _ h⟩
  cases r with
  | ok x w' =>
    cases x <;> simp only [Oper.uponIn] at hh ⊢ <;>
      first
        | exact hk _ _ hh
        | exact ⟨hh.1, CallsIn.mono hh.2 (fun e w'' he => by cases e <;> first | exact hk _ _ he | exact hq _ _ _ he | exact hout he)⟩
        | exact ⟨hh.1, RowsIn.mono hh.2 (fun _ _ he => hk _ _ he)⟩
        | exact ⟨hh.1, RoundIn.mono hh.2 (fun e w'' he => by cases e <;> first | exact hk _ _ he | exact hq _ _ _ he | exact hout he)⟩
  | halt x w' => cases x <;> simp only [Oper.uponIn] at hh ⊢ <;> first | exact hq _ _ _ hh | exact hh
theorem wpListIn_mono {F : Fence} {n : Nat} {ops : Array Oper} {Q1 Q2 : Exit → Act → World → Prop} (hq : ∀ e a w, Q1 e a w → Q2 e a w) : ∀ (os : List Oper) (a : Act) (w : World), wpListIn F n P ops Q1 os a w → wpListIn F n P ops Q2 os a w
  | [], a, w, h => hq _ _ _ h
  | o :: os, a, w, h => by
    unfold wpListIn at h ⊢
    split
    · rename_i hw
      rw [if_pos hw] at h
      exact operWpIn_mono (fun a w h => wpListIn_mono hq os a w h) hq h
    · rename_i hw
      rw [if_neg hw] at h
      exact ⟨h.1, wpListIn_mono hq os _ _ h.2⟩

theorem VOps.nil (h : Q .normal E H) : VOps P B N rn [] E H Q := by
  intro ro hro ops os hc σ w a hH hF
  cases os with
  | nil => exact ⟨E, H, σ, h, Mv.refl _ _ _, hH, hF⟩
  | cons o os => unfold compL at hc; split at hc <;> cases hc
theorem compL_cons {ops : Array Oper} {os : List Oper} {x : VI} (h : compL P N ops os = some (x :: l)) : ∃ o os', os = o :: os' ∧ compI P N ops o = some x ∧ compL P N ops os' = some l := by
  cases os with
  | nil => simp [compL] at h
  | cons o os =>
    unfold compL at h
    split at h
    · rename_i h1 h2; simp at h; obtain ⟨rfl, rfl⟩ := h; exact ⟨o, os, rfl, h1, h2⟩
    · cases h

/-- what a compiled operation is -/
theorem compI_inv {ops : Array Oper} {o : Oper} {x : VI} (h : compI P N ops o = some x) : dstOk N o.dst = true ∧ compG ops N o.guard = some x.gd ∧ o.dst = x.ds ∧
    match x with
    | .rd d g y => compRead P o.op = some y
    | .ef d g y => compEff P o.op = some y
    | .call d g f args => ∃ c, o.op = .call c ∧ ((∃ fo, c.callee = .value fo ∧ compOd fo = some f ∧ c.args.toList.mapM compOd = some args) ∨
        ∃ s name l, c.callee = .invoke (.tmp s) name ∧ s ≠ dslot ∧ f = .mt s (methTbl P name P.types.size) ∧ args = .ri s :: l ∧ c.args.toList.mapM compOd = some l)
    | .nx d g y => ∃ x, o.op = .next x false ∧ compOd x = some y
    | .dfr d g f args => ∃ c fo, o.op = .defer c ∧ c.callee = .value fo ∧ compOd fo = some f ∧ c.args.toList.mapM compOd = some args
    | .rcv d g => ∃ c, o.op = .call c ∧ c.callee = .builtin .recover
    | .bad d g => True := by
  unfold compI at h
  split at h
  · cases h
  · rename_i g hg
    split at h
    · cases h
    · rename_i hd
      refine ⟨by simpa using hd, ?_⟩
      split at h
      · rename_i y d h1 h2; simp at h; subst h; exact ⟨hg, h2, h1⟩
      · cases h
      · split at h
        · rename_i y h1; simp at h; subst h; exact ⟨hg, rfl, h1⟩
        · split at h
          · rename_i c ho
            split at h
            · rename_i fo hfo
              split at h
              · rename_i f l' h1 h2; simp at h; subst h; exact ⟨hg, rfl, c, ho, .inl ⟨fo, hfo, h1, h2⟩⟩
              · simp at h; subst h; exact ⟨hg, rfl, trivial⟩
            · rename_i s name hfo
              split at h
              · simp at h; subst h; exact ⟨hg, rfl, trivial⟩
              · rename_i hs
                split at h
                · rename_i l' h2; simp at h; subst h; exact ⟨hg, rfl, c, ho, .inr ⟨s, name, l', hfo, hs, rfl, rfl, h2⟩⟩
                · simp at h; subst h; exact ⟨hg, rfl, trivial⟩
            · rename_i hfo
              split at h
              · rename_i d h2; simp at h; subst h; exact ⟨hg, h2, c, ho, hfo⟩
              · simp at h; subst h; exact ⟨hg, rfl, trivial⟩
            · simp at h; subst h; exact ⟨hg, rfl, trivial⟩
          · rename_i c ho
            split at h
            · rename_i fo hfo
              split at h
              · rename_i f l' h1 h2; simp at h; subst h; exact ⟨hg, rfl, c, fo, ho, hfo, h1, h2⟩
              · simp at h; subst h; exact ⟨hg, rfl, trivial⟩
            · simp at h; subst h; exact ⟨hg, rfl, trivial⟩
          · rename_i x ho
            split at h
            · rename_i y d h1 h2; simp at h; subst h; exact ⟨hg, h2, x, ho, h1⟩
            · simp at h; subst h; exact ⟨hg, rfl, trivial⟩
          · simp at h; subst h; exact ⟨hg, rfl, trivial⟩

theorem noDefer {ops : Array Oper} {o : Oper} {x : VI} (h : compI P N ops o = some x) (hx : ∀ d g f l, x ≠ .dfr d g f l) (hb : ∀ d g, x ≠ .bad d g) : ∀ c, o.op ≠ .defer c := by
  intro c hc
  obtain ⟨_, _, _, hi⟩ := compI_inv h
  cases x with
  | rd d g y => simp only [hc, compRead] at hi; cases hi
  | ef d g y => simp only [hc, compEff] at hi; cases hi
  | call d g f ar => obtain ⟨c', h1, _⟩ := hi; rw [hc] at h1; cases h1
  | nx d g y => obtain ⟨y, h1, _⟩ := hi; rw [hc] at h1; cases h1
  | dfr d g f ar => exact hx _ _ _ _ rfl
  | rcv d g => obtain ⟨c', h1, _⟩ := hi; rw [hc] at h1; cases h1
  | bad d g => exact hb _ _ rfl

theorem dst_ok {x : Option Nat} {y : Option Nat} (h : x = y) (hd : dstOk N x = true) : dstOk N y = true := by rw [← h]; exact hd
/-- an operation that is passed over -/
theorem VOps.skip {x : VI} (hw : want E x.gd = some false) (h : VOps P B N rn l (E.pt x.ds (.tup [])) H Q) : VOps P B N rn (x :: l) E H Q := by
  intro ro hro ops os hc σ w a hH hF
  obtain ⟨o, os', rfl, h1, h2⟩ := compL_cons hc
  obtain ⟨hd, hg, hdst, _⟩ := compI_inv h1
  have hwant := want_ok hg hF hw
  unfold wpListIn
  rw [if_neg (by rw [hwant]; simp), hdst]
  exact ⟨fun _ _ => trivial, h ro hro ops os' h2 σ w _ hH (hF.pt (dst_ok hdst hd) (.tup (cs' := #[]) .nil))⟩

theorem VOps.rd {d : Nat} {g : Option (Nat × Bool)} {x : VOp} {v : VV} (hw : want E g = some true) (he : x.ev E H.g = some v) (h : VOps P B N rn l ((d, v) :: E) H Q) : VOps P B N rn (.rd d g x :: l) E H Q := by
  intro ro hro ops os hc σ w a hH hF
  obtain ⟨o, os', rfl, h1, h2⟩ := compL_cons hc
  obtain ⟨hd, hg, hdst, hr⟩ := compI_inv h1
  have hnd := noDefer h1 (by intro _ _ _ _ h; cases h) (by intro _ _ h; cases h)
  obtain ⟨v', hv, hrun⟩ := read_ok hr hH hF he
  unfold wpListIn
  rw [if_pos (want_ok hg hF hw)]
  refine ⟨fun _ _ => trivial, ?_⟩
  rw [Oper.semAt_eq _ _ _ hnd, hrun w (Below.refl _ _)]
  simp only [Oper.uponIn]
  rw [hdst]
  have hdN : d < N := by rw [hdst] at hd; simpa [dstOk, VI.ds] using hd
  exact h ro hro ops os' h2 σ w _ hH (hF.put hdN hv)

theorem VOps.ef {d : Option Nat} {g : Option (Nat × Bool)} {x : VEf} {v : VV} {us : Up} (hw : want E g = some true) (he : x.ev E H.g H.length = some (v, us)) (h : VOps P B N rn l (E.pt d v) (applyU H us) Q) : VOps P B N rn (.ef d g x :: l) E H Q := by
  intro ro hro ops os hc σ w a hH hF
  obtain ⟨o, os', rfl, h1, h2⟩ := compL_cons hc
  obtain ⟨hd, hg, hdst, hr⟩ := compI_inv h1
  have hnd := noDefer h1 (by intro _ _ _ _ h; cases h) (by intro _ _ h; cases h)
  obtain ⟨σ', v', w', q1, q2, q3, hrun⟩ := eff_ok hr hH hF he
  unfold wpListIn
  rw [if_pos (want_ok hg hF hw)]
  refine ⟨fun _ _ => trivial, ?_⟩
  have fin : wpListIn (Wd ro) 0 P ops (Post P B N σ w Q) os' (a.put o.dst v') w' := by
    rw [hdst]
    exact wpListIn_mono (fun e a w hp => hp.lift q1) _ _ _ (h ro hro ops os' h2 σ' w' _ q2 ((hF.mono q1.le).pt (dst_ok hdst hd) q3))
  rw [Oper.semAt_eq _ _ _ hnd]
  rcases hrun with hrun | ⟨hrun, hu⟩
  · rw [hrun]; exact fin
  · rw [hrun]; simp only [Oper.uponIn]; rw [← hu]; exact fin

theorem tblGet_meth {name : String} {t : TypeId} {f : FuncId} : ∀ {n : Nat}, tblGet (methTbl P name n) t = some f → methF P t name = some f
  | 0, h => by cases h
  | n + 1, h => by
    unfold methTbl at h
    split at h
    · rename_i f' hf
      unfold tblGet at h
      cases hb : Nat.beq n t with
      | true => rw [hb] at h; obtain rfl := Nat.eq_of_beq_eq_true hb; rw [hf]; exact h
      | false => rw [hb] at h; exact tblGet_meth h
    · exact tblGet_meth h
theorem methF_run {name : String} {t : TypeId} {f : FuncId} (h : methF P t name = some f) (n : Nat) (v : Value) (w : World) : (method (n + 1) t v name).run P w = .ok (f, v) w := by
  unfold methF at h
  split at h
  · rename_i i hi
    split at h
    · rename_i m hm
      split at h
      · cases h
      · rename_i f' e hp hf hu
        simp at h; subst h
        simp [method, typeInfo, hi, hm, hp, hf, follow, receiverAt, underlying, hu, Place.get]
      · rename_i f' d hne hp hf hu
        simp at h; subst h
        have hr : ∀ wr, (receiverAt t (.val v) false wr).run P w = .ok v w := by
          intro wr
          simp only [receiverAt, underlying, Sem.run_bind, run_program, hu, Result.andThen_ok]
          cases d <;> first | rfl | exact (hne _ rfl).elim
        simp [method, typeInfo, hi, hm, hp, hf, follow, hr]
      · cases h
    · cases h
  · cases h
/-- what a call comes to: the function is entered -/
theorem call_run {ops : Array Oper} {o : Oper} {d : Option Nat} {g : Option (Nat × Bool)} {fo : Od} {ar : List Od} {f : FuncId} {caps vs : List VV} {fn : Func} {σ : Sg} {E : Fr} {a : Act} {w : World} (h1 : compI P N ops o = some (.call d g fo ar)) (hF : FRel σ N E a)
    (hf : fo.ev E = some (.fn f caps)) (hv : Od.evs E ar = some vs) (hfn : P.funcs[f]? = some fn) (hnm : (fn.name == "runtime.NumGoroutine") = false) (hbody : fn.body.isSome = true) :
    ∃ args : Array Value, (execOp a.eval o).run P w = .ok (.enter f args) w ∧ LRel σ (vs ++ caps) args.toList := by
  obtain ⟨hd, hg, hdst, c, ho, hc⟩ := compI_inv h1
  have hb : ¬ fn.body = none := by intro hh; rw [hh] at hbody; cases hbody
  have hnm' : ¬ fn.name = "runtime.NumGoroutine" := by simpa using hnm
  rcases hc with ⟨fop, hcal, hcf, hca⟩ | ⟨s, name, l, hcal, hs, rfl, rfl, hca⟩
  · obtain ⟨caps', e1, hcaps⟩ := fn_inv (compOd_ok hcf hF hf)
    have hargs := evs_rel hca hF hv
    exact ⟨c.args.map a.eval ++ caps', by simp [execOp, ho, resolve, hcal, e1, Deferred.ofValue, invoke, callFunc, hfn, hnm', hb], by rw [Array.toList_append, Array.toList_map]; exact hargs.append hcaps⟩
  · cases hg : E.get s with
    | none => simp [Od.ev, hg] at hf
    | some u =>
      have hu := hF.2.2.2 s u hs hg
      cases u <;> simp only [Od.ev, hg] at hf <;> try cases hf
      rename_i t v
      split at hf
      · rename_i f' hf'
        obtain ⟨rfl, rfl⟩ : f' = f ∧ [] = caps := by simpa using hf
        simp only [Od.evs, Od.ev, hg] at hv
        cases hv2 : Od.evs E l with
        | none => simp [hv2] at hv
        | some vs2 =>
          simp [hv2] at hv
          subst hv
          have hargs := evs_rel hca hF hv2
          generalize hx : a.tmps.getD s undef = x at hu
          cases hu with
          | @ifc _ _ v' hvv =>
            have hm := methF_run (tblGet_meth hf') (P.types.size + Made.depth - 1) v' w
            refine ⟨#[v'] ++ c.args.map a.eval, ?_, ?_⟩
            · have e0 : P.types.size + Made.depth = (P.types.size + Made.depth - 1) + 1 := by have : Made.depth = Made.depth := rfl; simp [Made.depth]
              rw [← e0] at hm
              have h0 : (#[a.eval (.tmp s)] ++ c.args.map a.eval)[0]? = some (.iface t v') := by
                rw [Array.getElem?_append_left (by simp)]; exact congrArg some hx
              have h2 : (#[a.eval (.tmp s)] ++ c.args.map a.eval).extract 1 (#[a.eval (.tmp s)] ++ c.args.map a.eval).size = c.args.map a.eval := by simp
              have hcm : (callMethod (.iface t v') name (c.args.map a.eval)).run P w = .ok (.enter f' (#[v'] ++ c.args.map a.eval)) w := by
                simp only [callMethod, Sem.run_bind, run_program, Result.andThen_ok, hm]
                simp [callFunc, hfn, hnm', hb]
              have hin : (invoke (.fn (.method name) #[]) (#[a.eval (.tmp s)] ++ c.args.map a.eval)).run P w = .ok (.enter f' (#[v'] ++ c.args.map a.eval)) w := by
                simp only [invoke, h0, h2, hcm]
              simp only [execOp, ho, resolve, hcal, Sem.run_bind, Sem.run_pure, Result.andThen_ok, hin]
            · rw [List.append_nil, Array.toList_append, Array.toList_map]; exact .cons hvv hargs
      · cases hf
theorem VOps.call {d : Option Nat} {g : Option (Nat × Bool)} {fo : Od} {ar : List Od} {f : FuncId} {caps vs : List VV} (hw : want E g = some true) (hf : fo.ev E = some (.fn f caps)) (hv : Od.evs E ar = some vs)
    (h : FnV P f (vs ++ caps) H fun r H' => VOps P B N rn l (E.pt d r) H' Q) : VOps P B N rn (.call d g fo ar :: l) E H Q := by
  intro ro hro ops os hc σ w a hH hF
  obtain ⟨o, os', rfl, h1, h2⟩ := compL_cons hc
  obtain ⟨hd, hg, hdst, _⟩ := compI_inv h1
  have hnd := noDefer h1 (by intro _ _ _ _ h; cases h) (by intro _ _ h; cases h)
  obtain ⟨⟨fn, hfn, hnm, hbody⟩, hcall⟩ := h
  obtain ⟨args, hrun, hl⟩ := call_run (w := w) h1 hF hf hv hfn hnm hbody
  unfold wpListIn
  rw [if_pos (want_ok hg hF hw)]
  refine ⟨fun _ _ => trivial, ?_⟩
  rw [Oper.semAt_eq _ _ _ hnd, hrun]
  simp only [Oper.uponIn]
  refine ⟨fun h => by simp [Fence.wide] at h, ?_⟩
  refine callsIn_wd.2 ((hcall σ B w _ hH hl).mono fun e w' ⟨r, v', H', σ', q1, q2, q3, q4, q5⟩ => ?_)
  subst q1
  rw [hdst]
  exact wpListIn_mono (fun e a w hp => hp.lift q4) _ _ _ (q3 ro hro ops os' h2 σ' w' _ q5 ((hF.mono q4.le).pt (dst_ok hdst hd) q2))

theorem VOps.yld {d : Option Nat} {g : Option (Nat × Bool)} {fo : Od} {ar : List Od} {b : Nat} {vs : List VV} (hw : want E g = some true) (hf : fo.ev E = some (.yield b)) (hv : Od.evs E ar = some vs)
    (h : YldV P b vs H fun r H' => VOps P B N rn l (E.pt d r) H' Q) : VOps P B N rn (.call d g fo ar :: l) E H Q := by
  intro ro hro ops os hc σ w a hH hF
  obtain ⟨o, os', rfl, h1, h2⟩ := compL_cons hc
  obtain ⟨hd, hg, hdst, c, ho, hc2⟩ := compI_inv h1
  obtain ⟨fop, hcal, hcf, hca⟩ : ∃ fop, c.callee = .value fop ∧ compOd fop = some fo ∧ c.args.toList.mapM compOd = some ar := by
    rcases hc2 with h | ⟨s, name, l', _, _, rfl, _⟩
    · exact h
    · simp only [Od.ev] at hf
      split at hf
      · split at hf <;> cases hf
      · cases hf
  have hnd := noDefer h1 (by intro _ _ _ _ h; cases h) (by intro _ _ h; cases h)
  obtain ⟨I, e1, hI⟩ := yield_inv (compOd_ok hcf hF hf)
  have hargs := evs_rel hca hF hv
  obtain ⟨fn, tmps, as, bd, hy, hround⟩ := h σ B w (c.args.map a.eval) I hH (by rw [Array.toList_map]; exact hargs) hI
  unfold wpListIn
  rw [if_pos (want_ok hg hF hw)]
  refine ⟨fun _ _ => trivial, ?_⟩
  have hrun : (execOp a.eval o).run P w = .ok (.round I.real fn tmps as bd) w := by
    simp [execOp, ho, resolve, hcal, e1, Deferred.ofValue, invoke, hy]
  rw [Oper.semAt_eq _ _ _ hnd, hrun]
  simp only [Oper.uponIn]
  refine ⟨fun h => by simp [Fence.wide] at h, ?_⟩
  refine RoundIn.mono (show RoundIn (Wd ro) 0 P I.real fn tmps as bd w _ from hround) fun e w' ⟨r, v', H', σ', q1, q2, q3, q4, q5⟩ => ?_
  subst q1
  rw [hdst]
  exact wpListIn_mono (fun e a w hp => hp.lift q4) _ _ _ (q3 ro hro ops os' h2 σ' w' _ q5 ((hF.mono q4.le).pt (dst_ok hdst hd) q2))

/-- a call is put off -/
theorem VOps.dfr {d : Option Nat} {g : Option (Nat × Bool)} {fo : Od} {ar : List Od} {f : FuncId} {caps vs : List VV} (hrd : rn = false) (hw : want E g = some true) (hf : fo.ev E = some (.fn f caps)) (hv : Od.evs E ar = some vs)
    (h : VOps P B N rn l ((E.defer (.tup (.fn f caps :: vs))).pt d .undef) H Q) : VOps P B N rn (.dfr d g fo ar :: l) E H Q := by
  intro ro hro ops os hc σ w a hH hF
  obtain ⟨o, os', rfl, h1, h2⟩ := compL_cons hc
  obtain ⟨hd, hg, hdst, c, fop, ho, hcal, hcf, hca⟩ := compI_inv h1
  obtain ⟨caps', e1, hcaps⟩ := fn_inv (compOd_ok hcf hF hf)
  have hargs := evs_rel hca hF hv
  have hr0 := hro hrd
  subst hr0
  unfold wpListIn
  rw [if_pos (want_ok hg hF hw)]
  refine ⟨fun _ _ => trivial, ?_⟩
  have hrun : (execOp a.eval o).run P w = .ok (.defer { target := .fn (.func f) caps', args := c.args.map a.eval }) w := by
    simp [execOp, ho, resolve, hcal, e1, Deferred.ofValue]
  show Oper.uponIn _ _ _ _ _ _ _ ((execOp a.eval o).run P w)
  rw [hrun]
  simp only [Oper.uponIn]
  rw [hdst]
  refine h none (fun _ => rfl) ops os' h2 σ w _ hH (FRel.pt ?_ (dst_ok hdst hd) (.undef _))
  have hitem : DItem σ (.tup (.fn f caps :: vs)) { target := .fn (.func f) caps', args := c.args.map a.eval } := .call hcaps (by rw [Array.toList_map]; exact hargs)
  refine ⟨hF.1, hF.2.1, ?_, fun s v hs hv => ?_⟩
  · have hD := hF.2.2.1
    unfold Fr.defer
    cases hx : E.get dslot with
    | none => rw [hx] at hD; simp only [Fr.get_cons, if_true]; cases hD' : a.defers with
      | nil => exact .some (.cons hitem .nil)
      | cons _ _ => rw [hD'] at hD; cases hD
    | some u => rw [hx] at hD; cases hD with | some hi => simp only [Fr.get_cons, if_true]; exact .some (.cons hitem hi)
  · refine hF.2.2.2 s v hs ?_
    unfold Fr.defer at hv
    split at hv <;> (rw [Fr.get_cons, if_neg (Ne.symm hs)] at hv; exact hv)
end
end Go.Wm
