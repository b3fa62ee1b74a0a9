/- Statements and whole functions. -/
import Derived.Test.YtbcaceeiehjplacGreatDoorWmN
import Derived.Scope
import Derived.Deep.LoopGhost
namespace Go.Wm
set_option linter.unusedSimpArgs false
set_option linter.unusedVariables false
open Go.RowKit

def VW (P : Program) (B N : Nat) (rn : Bool) (vc : VC) (F : Fr) (H : Hp) (Q : VQ) : Prop :=
  ∀ ro, (rn = false → ro = none) → ∀ (K : Nat → Nat) (c : Code), compC P N K c = some vc → ∀ σ w a, HRel P σ B H w → FRel σ N F a → c.wpIn (Wd ro) 0 P (Post P B N σ w Q) a w

/-! ### three rules that the kit lacks inside a fence -/
section
variable {P : Program} {b : Frame} {a : Act} {k : List Item} {cs : List Frame} {w : World} {Q : Exit → Act → World → Prop} {G : Fence} {n : Nat}
theorem stepR_scope {c : Code} : step P (lone (b.atR a (.code (.scope c) :: k)) cs w) = .next (lone (b.atR a (.code c :: .inScope c :: k)) cs w) :=
  step_lone_go (by simp [stepG, stepG.exec, Frame.atR])
theorem stepR_inScope {c : Code} : step P (lone (b.atR a (.inScope c :: k)) cs w) = .next (lone (b.atR a k) cs w) :=
  step_lone_go (by simp [stepG, stepG.exec, Frame.atR])
theorem wpIn_scope {c : Code} (h : c.wpIn G n P (Exit.noGoto Q) a w) : (Code.scope c).wpIn G n P Q a w := by
  intro b k cs hro hb hr
  have h0 : (lone (b.atR a (.code (.scope c) :: k)) cs w).fenced P G := fenced_calm hb hr rfl
  obtain ⟨e, a₁, w₁, hq, harr⟩ := h b (.inScope c :: k) cs hro hb hr
  cases e with
  | normal => exact ⟨.normal, a₁, w₁, hq, .head h0 stepR_scope (StepsIn.trans harr (.one (fenced_calm hb hr rfl) stepR_inScope))⟩
  | exit id =>
    have hx : exitTo id (.inScope c :: k) = exitTo id k := by simp [exitTo]
    exact ⟨.exit id, a₁, w₁, hq, fun k' hk => .head h0 stepR_scope (harr.1 k' (by rw [hx]; exact hk)), fun hr' hk => let ⟨k₁, h1, h2⟩ := harr.2 hr' (by rw [hx]; exact hk); ⟨k₁, h1, .head h0 stepR_scope h2⟩⟩
  | goto l => exact hq.elim
  | ret => exact ⟨_, a₁, w₁, hq, .of_steps (.one h0 stepR_scope) harr⟩
  | panic ch => exact ⟨_, a₁, w₁, hq, .of_steps (.one h0 stepR_scope) harr⟩
  | outgrown => exact ⟨_, a₁, w₁, hq, .of_steps (.one h0 stepR_scope) harr⟩
theorem wpIn_loop_ghost {c : Code} (I : Nat → Act → World → Prop) (n₀ : Nat) (h₀ : I n₀ a w)
    (round : ∀ m a w, I m a w → c.wpIn G n P (Exit.then (fun a' w' => ∃ n', n' < m ∧ I n' a' w') Q) a w) : (Code.loop c).wpIn G n P Q a w := by
  refine wpIn_loop (fun a w => ∃ n, I n a w) (fun a w => leastOf (fun n => I n a w)) ⟨n₀, h₀⟩ ?_
  intro a w hI
  refine wpIn_mono (round _ a w (leastOf_spec hI).1) ?_
  intro e a' w' hq
  cases e with
  | normal =>
    obtain ⟨n', hlt, hI'⟩ := hq
    exact show (∃ n, I n a' w') ∧ leastOf (fun n => I n a' w') < leastOf (fun n => I n a w) from ⟨⟨n', hI'⟩, Nat.lt_of_le_of_lt ((leastOf_spec ⟨n', hI'⟩).2 n' hI') hlt⟩
  | exit id => exact hq
  | goto l => exact hq
  | ret => exact hq
  | panic ch => exact hq
  | outgrown => exact hq
end

section
variable {P : Program} {B N : Nat} {rn : Bool} {F : Fr} {H : Hp} {Q : VQ}

theorem VW.mono {vc : VC} {Q' : VQ} (h : VW P B N rn vc F H Q) (hq : ∀ e F H, Q e F H → Q' e F H) : VW P B N rn vc F H Q' :=
  fun ro hro K c hc σ w a hH hF => wpIn_mono (h ro hro K c hc σ w a hH hF) fun _ _ _ hp => hp.mono hq
/-- in no round is one of the rounds -/
theorem VW.up {vc : VC} (h : VW P B N true vc F H Q) : VW P B N rn vc F H Q := fun ro _ => h ro (fun e => by cases e)

theorem compX_inv {ops : Array Oper} {l : List VI} (h : compX P N ops = some l) : ∃ ops2, PermOf ops ops2 ∧ compL P N ops2 ops2.toList = some l ∧ okX ops2 l (compXb P N ops) = true := by
  unfold compX at h
  unfold compXb
  split at h
  · rename_i l1 h1
    simp only [h1]
    split at h
    · rename_i hok
      cases h
      exact ⟨ops, .inl rfl, h1, by rw [if_pos hok]; exact hok⟩
    · rename_i hok
      simp only at h
      split at h
      · rename_i hp
        split at h
        · rename_i l2 h2
          split at h
          · rename_i hok2
            cases h
            exact ⟨_, .inr ⟨_, _, permOk_spec hp⟩, h2, by rw [if_neg hok]; first | exact hok2 | (rw [h2]; exact hok2) | (simp [h2]; exact hok2)⟩
          · cases h
        · cases h
      · cases h
  · cases h
def CInv (P : Program) (N : Nat) (K : Nat → Nat) (c' : Code) : VC → Prop
  | .skip => c' = .skip ∨ ∃ l, c' = .label l
  | .reg l keep => ∃ id ops, c' = .region id ops false ∧ compL P N ops ops.toList = some l
  | .dreg l b keep => ∃ id ops ops2, c' = .region id ops true ∧ PermOf ops ops2 ∧ compL P N ops2 ops2.toList = some l ∧ okX ops2 l b = true
  | .seq x y => ∃ a b, c' = .seq a b ∧ compC P N K a = some x ∧ compC P N K b = some y
  | .cond s x y => ∃ a b, c' = .cond (.tmp s) a b ∧ s ≠ dslot ∧ compC P N K a = some x ∧ compC P N K b = some y
  | .block id x => ∃ a, c' = .block id a ∧ compC P N K a = some x
  | .loop x => ∃ a, c' = .loop a ∧ compC P N K a = some x
  | .exit id => c' = .exit id
  | .ret => c' = .ret
  | .scope x => ∃ a, c' = .scope a ∧ compC P N K a = some x
  | .rfunc f ps x y => ∃ g ps' a b, c' = .rangeFunc g ps' a b ∧ compOd g = some f ∧ ps'.toList = ps ∧ (∀ s ∈ ps, s < N) ∧ compC P N K a = some x ∧ compC P N K b = some y
  | .bad => True
  | .dlm _ _ => False
/-- constant conditions are passed through -/
def Peel (P : Program) (c' c : Code) : Prop := (∀ G n Q a w, c'.wpIn G n P Q a w → c.wpIn G n P Q a w) ∧ (∀ G n Q a cs w, c'.wpSIn G n P Q a cs w → c.wpSIn G n P Q a cs w)
theorem Peel.refl (c : Code) : Peel P c c := ⟨fun _ _ _ _ _ h => h, fun _ _ _ _ _ _ h => h⟩
theorem Peel.cond {c' c x y : Code} {t : Bool} {o : Operand} (h : Peel P c' c) (ho : o = .const (.bool t)) (hc : c = if t then x else y) : Peel P c' (.cond o x y) := by
  subst ho
  exact ⟨fun G n Q a w hw => wpIn_cond (t := t) rfl (hc ▸ h.1 G n Q a w hw), fun G n Q a cs w hw => wpSIn_cond (t := t) rfl (hc ▸ h.2 G n Q a cs w hw)⟩
theorem compC_inv {K : Nat → Nat} : ∀ {c : Code} {vc : VC}, compC P N K c = some vc → ∃ c', Peel P c' c ∧ CInv P N K c' vc
  | .skip, vc, h => by simp only [compC] at h; cases h; exact ⟨_, .refl _, .inl rfl⟩
  | .region id ops false, vc, h => by
    simp only [compC] at h
    split at h
    · cases h; exact ⟨_, .refl _, _, _, rfl, by assumption⟩
    · cases h
  | .region id ops true, vc, h => by
    simp only [compC] at h
    split at h
    · rename_i l hl
      cases h
      obtain ⟨ops2, h1, h2, h3⟩ := compX_inv hl
      exact ⟨_, .refl _, _, _, ops2, rfl, h1, h2, h3⟩
    · cases h
  | .seq a b, vc, h => by
    simp only [compC] at h
    split at h
    · cases h; exact ⟨_, .refl _, _, _, rfl, by assumption, by assumption⟩
    · cases h
  | .cond (.tmp s) a b, vc, h => by
    simp only [compC] at h
    split at h
    · cases h
    · split at h
      · cases h; exact ⟨_, .refl _, _, _, rfl, by assumption, by assumption, by assumption⟩
      · cases h
  | .cond (.const (.bool true)) a b, vc, h => by
    simp only [compC] at h
    obtain ⟨c', h1, h2⟩ := compC_inv h
    exact ⟨c', h1.cond rfl rfl, h2⟩
  | .cond (.const (.bool false)) a b, vc, h => by
    simp only [compC] at h
    obtain ⟨c', h1, h2⟩ := compC_inv h
    exact ⟨c', h1.cond (t := false) rfl rfl, h2⟩
  | .cond (.func _) a b, vc, h | .cond (.global _) a b, vc, h | .goto _, vc, h | .refuse _, vc, h => by
    simp only [compC] at h; cases h; exact ⟨_, .refl _, trivial⟩
  | .block id a, vc, h | .loop a, vc, h | .scope a, vc, h => by
    simp only [compC] at h
    split at h
    · cases h; exact ⟨_, .refl _, _, rfl, by assumption⟩
    · cases h
  | .exit id, vc, h | .ret, vc, h => by simp only [compC] at h; cases h; exact ⟨_, .refl _, rfl⟩
  | .label l, vc, h => by simp only [compC] at h; cases h; exact ⟨_, .refl _, .inr ⟨_, rfl⟩⟩
  | .rangeFunc f ps a b, vc, h => by
    simp only [compC] at h
    split at h
    · split at h
      · rename_i hall
        cases h; exact ⟨_, .refl _, _, _, _, _, rfl, by assumption, rfl, fun s hs => by simpa using List.all_eq_true.1 hall s hs, by assumption, by assumption⟩
      · cases h
    · cases h
  | .cond (.const v) a b, vc, h => by
    cases v
    case bool t =>
      cases t
      · simp only [compC] at h
        obtain ⟨c', h1, h2⟩ := compC_inv h
        exact ⟨c', h1.cond (t := false) rfl rfl, h2⟩
      · simp only [compC] at h
        obtain ⟨c', h1, h2⟩ := compC_inv h
        exact ⟨c', h1.cond rfl rfl, h2⟩
    all_goals (simp only [compC] at h; cases h; exact ⟨_, .refl _, trivial⟩)

theorem post_self {σ : Sg} {w : World} {a : Act} {e : Exit} (hH : HRel P σ B H w) (hF : FRel σ N F a) (h : Q e F H) : Post P B N σ w Q e a w :=
  ⟨F, H, σ, h, Mv.refl _ _ _, hH, hF⟩

theorem VW.skip (h : Q .normal F H) : VW P B N rn .skip F H Q := by
  intro ro hro K c hc σ w a hH hF
  obtain ⟨c', h0, h1⟩ := compC_inv hc
  refine h0.1 _ _ _ _ _ ?_
  rcases h1 with rfl | ⟨l, rfl⟩
  · exact wpIn_skip (post_self hH hF h)
  · exact wpIn_label (post_self hH hF h)
theorem VW.exit {id : Nat} (h : Q (.exit id) F H) : VW P B N rn (.exit id) F H Q := by
  intro ro hro K c hc σ w a hH hF
  obtain ⟨c', h0, rfl⟩ := compC_inv hc
  exact h0.1 _ _ _ _ _ (wpIn_exit (post_self hH hF h))
theorem VW.ret (h : Q .ret F H) : VW P B N rn .ret F H Q := by
  intro ro hro K c hc σ w a hH hF
  obtain ⟨c', h0, rfl⟩ := compC_inv hc
  exact h0.1 _ _ _ _ _ (wpIn_ret (post_self hH hF h))

/-- what a region leaves -/
def atEnd (Q : VQ) (keep : Nat) : VQ := fun e E H => e = .normal ∧ Q .normal (E.only keep) H
theorem atEnd_post {σ : Sg} {w w' : World} {keep : Nat} {e : Exit} {a' : Act} (h : Post P B N σ w (atEnd Q keep) e a' w') : Post P B N σ w Q e a' w' := by
  obtain ⟨E, H', σ', ⟨he, hq⟩, h1, h2, h3⟩ := h
  subst he
  exact ⟨E.only keep, H', σ', hq, h1, h2, h3.only keep⟩
theorem VW.reg {l : List VI} {keep : Nat} (h : VOps P B N rn l F H (atEnd Q keep)) : VW P B N rn (.reg l keep) F H Q := fun ro hro K c hc σ w a hH hF => by
  obtain ⟨c', h0, id, ops, rfl, h1⟩ := compC_inv hc
  exact h0.1 _ _ _ _ _ (wpIn_region_list (wpListIn_mono (fun _ _ _ hp => atEnd_post hp) _ _ _ (h ro hro ops _ h1 σ w a hH hF)))

/-- what follows, behind a name -/
def Then (Q1 : Fr → Hp → Prop) (Q : VQ) : VQ := fun e F H => match e with | .normal => Q1 F H | e => Q e F H
theorem VW.seq {x y : VC} (h : VW P B N rn x F H (Then (fun F' H' => VW P B N rn y F' H' Q) Q)) : VW P B N rn (.seq x y) F H Q := fun ro hro K c hc σ w a hH hF => by
  obtain ⟨c', h0, c1, c2, rfl, h1, h2⟩ := compC_inv hc
  refine h0.1 _ _ _ _ _ (wpIn_seq (wpIn_mono (h ro hro K c1 h1 σ w a hH hF) ?_))
  intro e a' w' hp
  obtain ⟨F', H', σ', hq, q1, q2, q3⟩ := hp
  cases e with
  | normal => exact wpIn_mono (hq ro hro K c2 h2 σ' w' a' q2 q3) fun _ _ _ hp => hp.lift q1
  | exit id => exact ⟨F', H', σ', hq, q1, q2, q3⟩
  | goto l => exact ⟨F', H', σ', hq, q1, q2, q3⟩
  | ret => exact ⟨F', H', σ', hq, q1, q2, q3⟩
  | panic ch => exact ⟨F', H', σ', hq, q1, q2, q3⟩
  | outgrown => exact ⟨F', H', σ', hq, q1, q2, q3⟩
theorem VW.cond {s : Nat} {x y : VC} {b : Bool} (hg : F.get s = some (.bool b)) (h1 : b = true → VW P B N rn x F H Q) (h2 : b = false → VW P B N rn y F H Q) : VW P B N rn (.cond s x y) F H Q := fun ro hro K c hc σ w a hH hF => by
  obtain ⟨c', h0, c1, c2, rfl, hs, k1, k2⟩ := compC_inv hc
  have r := hF.2.2.2 _ _ hs hg
  have e := bool_inv r
  refine h0.1 _ _ _ _ _ ?_
  cases b with
  | true => exact wpIn_cond_true (by simpa [Act.eval] using e) (h1 rfl ro hro K c1 k1 σ w a hH hF)
  | false => exact wpIn_cond_false (by simpa [Act.eval] using e) (h2 rfl ro hro K c2 k2 σ w a hH hF)
def inB (id : Nat) (Q : VQ) : VQ := fun e F H => match e with | .exit i => if i = id then Q .normal F H else Q (.exit i) F H | e => Q e F H
theorem VW.block {id : Nat} {x : VC} (h : VW P B N rn x F H (inB id Q)) : VW P B N rn (.block id x) F H Q := fun ro hro K c hc σ w a hH hF => by
  obtain ⟨c', h0, c1, rfl, h1⟩ := compC_inv hc
  refine h0.1 _ _ _ _ _ (wpIn_block (wpIn_mono (h ro hro K c1 h1 σ w a hH hF) ?_))
  intro e a' w' hp
  obtain ⟨F', H', σ', hq, q1, q2, q3⟩ := hp
  cases e with
  | exit i =>
    simp only [inB] at hq
    simp only [Exit.inBlock]
    split
    · rename_i hi; rw [if_pos hi] at hq; exact ⟨F', H', σ', hq, q1, q2, q3⟩
    · rename_i hi; rw [if_neg hi] at hq; exact ⟨F', H', σ', hq, q1, q2, q3⟩
  | normal => exact ⟨F', H', σ', hq, q1, q2, q3⟩
  | goto l => exact ⟨F', H', σ', hq, q1, q2, q3⟩
  | ret => exact ⟨F', H', σ', hq, q1, q2, q3⟩
  | panic ch => exact ⟨F', H', σ', hq, q1, q2, q3⟩
  | outgrown => exact ⟨F', H', σ', hq, q1, q2, q3⟩
def noGo (Q : VQ) : VQ := fun e F H => match e with | .goto _ => False | e => Q e F H
theorem VW.scope {x : VC} (h : VW P B N rn x F H (noGo Q)) : VW P B N rn (.scope x) F H Q := fun ro hro K c hc σ w a hH hF => by
  obtain ⟨c', h0, c1, rfl, h1⟩ := compC_inv hc
  refine h0.1 _ _ _ _ _ (wpIn_scope (wpIn_mono (h ro hro K c1 h1 σ w a hH hF) ?_))
  intro e a' w' hp
  obtain ⟨F', H', σ', hq, q1, q2, q3⟩ := hp
  cases e with
  | goto l => exact hq.elim
  | exit i => exact ⟨F', H', σ', hq, q1, q2, q3⟩
  | normal => exact ⟨F', H', σ', hq, q1, q2, q3⟩
  | ret => exact ⟨F', H', σ', hq, q1, q2, q3⟩
  | panic ch => exact ⟨F', H', σ', hq, q1, q2, q3⟩
  | outgrown => exact ⟨F', H', σ', hq, q1, q2, q3⟩
/-- a loop: an invariant with a number that every round lowers -/
theorem VW.loop {x : VC} (I : Nat → Fr → Hp → Prop) (n0 : Nat) (h0 : I n0 F H)
    (round : ∀ n F' H', I n F' H' → VW P B N rn x F' H' (Then (fun F2 H2 => ∃ m, m < n ∧ I m F2 H2) Q)) : VW P B N rn (.loop x) F H Q := fun ro hro K c hc σ w a hH hF => by
  obtain ⟨c', hz, c1, rfl, h1⟩ := compC_inv hc
  refine hz.1 _ _ _ _ _ (wpIn_loop_ghost (fun n a' w' => ∃ F' H' σ', I n F' H' ∧ Mv B σ σ' w w' ∧ HRel P σ' B H' w' ∧ FRel σ' N F' a') n0 ⟨F, H, σ, h0, Mv.refl _ _ _, hH, hF⟩ ?_)
  intro n a1 w1 ⟨F1, H1, σ1, hI, q1, q2, q3⟩
  refine wpIn_mono (round n F1 H1 hI ro hro K c1 h1 σ1 w1 a1 q2 q3) ?_
  intro e a' w' hp
  obtain ⟨F', H', σ', hq, r1, r2, r3⟩ := hp
  cases e with
  | normal =>
    obtain ⟨m, hm, hI'⟩ := hq
    exact ⟨m, hm, F', H', σ', hI', q1.trans r1, r2, r3⟩
  | exit id => exact ⟨F', H', σ', hq, q1.trans r1, r2, r3⟩
  | goto l => exact ⟨F', H', σ', hq, q1.trans r1, r2, r3⟩
  | ret => exact ⟨F', H', σ', hq, q1.trans r1, r2, r3⟩
  | panic ch => exact ⟨F', H', σ', hq, q1.trans r1, r2, r3⟩
  | outgrown => exact ⟨F', H', σ', hq, q1.trans r1, r2, r3⟩

/-! ### a region that draws its order -/
theorem VW.dreg {l : List VI} {b : List (Nat × Nat)} {keep : Nat} (hs : List Hp) (hm : P.follows .mixedOrders = true) (hC : hs[0]? = some H) (h : VX P hs l b 0 F H fun E H' => Q .normal (E.only keep) H') : VW P B N rn (.dreg l b keep) F H Q := fun ro hro K c hc σ w a hH hF => by
  obtain ⟨c', h0, id, ops, ops2, rfl, hp, h1, h2⟩ := compC_inv hc
  exact h0.1 _ _ _ _ _ (x_region_perm hm hp h1 h2 hC h hH hF fun E' H' a' w' σ' q1 q2 q3 q4 => ⟨E'.only keep, H', σ', q1, q2, q4, q3.only keep⟩)

theorem argsF_get : ∀ (l : List VV) (k s : Nat) (v : VV), (argsF k l).get s = some v → k ≤ s ∧ l[s - k]? = some v
  | [], k, s, v, h => by simp [argsF, Fr.get] at h
  | x :: l, k, s, v, h => by
    simp only [argsF, Fr.get_cons] at h
    split at h
    · rename_i hk; subst hk; simp at h; subst h; simp
    · rename_i hk
      obtain ⟨h1, h2⟩ := argsF_get l (k + 1) s v h
      refine ⟨by omega, ?_⟩
      rw [show s - k = (s - (k + 1)) + 1 by omega]
      simpa using h2

def resSem (tmps : Array Value) : ResultVar → Sem Value
  | .tmp t => pure (tmps.getD t undef)
  | .cell a t => do loadVar t (← asAddr (tmps.getD a undef))
theorem results_eq (fn : Func) (tmps : Array Value) : results fn tmps = (do let vs ← fn.results.mapM (resSem tmps); pure (if h : vs.size = 1 then vs[0] else .tuple vs)) := by
  unfold results
  refine congrArg (fun g => (Array.mapM g fn.results >>= fun vs => (pure (if h : vs.size = 1 then vs[0] else Value.tuple vs) : Sem Value))) ?_
  funext r
  cases r <;> rfl

theorem resL_ok {σ : Sg} {w : World} {a : Act} (hH : HRel P σ B H w) (hF : FRel σ N F a) : ∀ (rs : List ResultVar) (l : List RV) (vs : List VV), compR P rs = some l → resL F H.g l = some vs →
    ∃ vs', LRel σ vs vs' ∧ (rs.mapM (resSem a.tmps)).run P w = .ok vs' w
  | [], l, vs, hc, hr => by simp [compR] at hc; subst hc; simp [resL] at hr; subst hr; exact ⟨[], .nil, by simp⟩
  | .tmp s :: rs, l, vs, hc, hr => by
    simp only [compR] at hc
    by_cases hsd : s = dslot
    · rw [if_pos hsd] at hc; cases hc
    rw [if_neg hsd] at hc
    cases h1 : compR P rs with
    | none => simp [h1] at hc
    | some l' =>
      simp [h1] at hc; subst hc
      simp only [resL] at hr
      cases h2 : F.get s with
      | none => simp [h2] at hr
      | some v =>
        cases h3 : resL F H.g l' with
        | none => simp [h2, h3] at hr
        | some vs0 =>
          simp [h2, h3] at hr; subst hr
          obtain ⟨vs', q1, q2⟩ := resL_ok hH hF rs l' vs0 h1 h3
          refine ⟨a.tmps.getD s undef :: vs', .cons (hF.2.2.2 _ _ hsd h2) q1, ?_⟩
          rw [List.mapM_cons]
          simp only [resSem, Sem.run_bind, Sem.run_pure, Result.andThen_ok, q2]
  | .cell s t :: rs, l, vs, hc, hr => by
    simp only [compR] at hc
    by_cases hsd : s = dslot
    · rw [if_pos hsd] at hc; cases hc
    rw [if_neg hsd] at hc
    cases h0 : aggOf P t with
    | none => simp [h0] at hc
    | some nb =>
      obtain ⟨n, b⟩ := nb
      cases h1 : compR P rs with
      | none => simp [h0, h1] at hc
      | some l' =>
        simp [h0, h1] at hc; subst hc
        simp only [resL] at hr
        cases h2 : (VOp.load n b (.t s)).ev F H.g with
        | none => simp [h2] at hr
        | some v =>
          cases h3 : resL F H.g l' with
          | none => simp [h2, h3] at hr
          | some vs0 =>
            simp [h2, h3] at hr; subst hr
            obtain ⟨vs', q1, q2⟩ := resL_ok hH hF rs l' vs0 h1 h3
            have hl := read_load (P := P) (o := { dst := none, op := .load t (.tmp s), type := 0, pos := "", after := #[], guard := none }) rfl h0 (y := .t s) (by simp [compOd, hsd]) hH hF h2
            obtain ⟨v', r1, r2⟩ := hl
            have r3 := r2 w (Below.refl _ _)
            -- the pointer that stands there
            have hp : ∃ ad, a.tmps.getD s undef = .pointer (some ad) := by
              simp only [VOp.ev, Od.ev] at h2
              cases h4 : F.get s with
              | none => simp [h4] at h2
              | some u =>
                cases u <;> simp [h4] at h2
                rename_i p
                cases p with
                | none => simp at h2
                | some p => obtain ⟨ad, e, _⟩ := ptr_inv (hF.2.2.2 _ _ hsd h4); exact ⟨ad, e⟩
            obtain ⟨ad, had⟩ := hp
            have r4 : (loadVar t ad).run P w = .ok v' w := by
              have : (execOp a.eval { dst := none, op := .load t (.tmp s), type := 0, pos := "", after := #[], guard := none }).run P w = ((loadVar t ad).run P w).andThen fun v w' => .ok (.value v) w' := by
                simp only [execOp, Act.eval, had, Instr.loadAt, Instr.sureAddr, Sem.run_bind, Sem.run_pure, Result.andThen_ok]
              rw [this] at r3
              cases hx : (loadVar t ad).run P w with
              | ok x w' => rw [hx] at r3; simp at r3; rw [r3.1, r3.2]
              | halt x w' => rw [hx] at r3; simp at r3
            refine ⟨v' :: vs', .cons r1 q1, ?_⟩
            rw [List.mapM_cons]
            simp only [resSem, had, asAddr, Sem.run_bind, Sem.run_pure, Result.andThen_ok, r4, q2]

theorem resV_ok {σ : Sg} {w : World} {a : Act} {fn : Func} {l : List RV} {v : VV} (hH : HRel P σ B H w) (hF : FRel σ N F a) (hc : compR P fn.results.toList = some l) (hr : resV F H.g l = some v) :
    ∃ v', VRel σ v v' ∧ (results fn a.tmps).run P w = .ok v' w := by
  unfold resV at hr
  have key : ∀ vs, resL F H.g l = some vs → ∃ vs' : Array Value, LRel σ vs vs'.toList ∧ (results fn a.tmps).run P w = .ok (if h : vs'.size = 1 then vs'[0] else .tuple vs') w := by
    intro vs hvs
    obtain ⟨vs', q1, q2⟩ := resL_ok hH hF fn.results.toList l vs hc hvs
    refine ⟨vs'.toArray, by simpa using q1, ?_⟩
    rw [results_eq, Array.mapM_eq_mapM_toList]
    simp only [Sem.run_bind, Sem.run_map, q2, Result.andThen_ok, Sem.run_pure]
  split at hr
  · rename_i v0 h0
    simp at hr; subst hr
    obtain ⟨vs', q1, q2⟩ := key _ h0
    have hsz : vs'.size = 1 := by have := q1.length; simpa using this.symm
    rw [dif_pos hsz] at q2
    refine ⟨_, ?_, q2⟩
    obtain ⟨u, r1, r2⟩ := q1.get (i := 0) (v := v0) (by simp)
    have : vs'[0] = u := by simp at r1; rw [Array.getElem?_eq_getElem (by omega)] at r1; simpa using r1
    rw [this]; exact r2
  · rename_i vs h0 h1
    simp at hr; subst hr
    obtain ⟨vs', q1, q2⟩ := key _ h1
    have hsz : ¬ vs'.size = 1 := by
      intro hsz
      have hl : vs.length = vs'.size := by have := q1.length; rw [Array.length_toList] at this; exact this
      rw [hsz] at hl
      match vs, hl with
      | [x], _ => exact h0 x rfl
    rw [dif_neg hsz] at q2
    exact ⟨_, .tup q1, q2⟩
  · cases hr


end
end Go.Wm
