/- Statements and whole functions. -/
import Derived.Test.YtlclbfkdaemilaaVmK
import Derived.Deep.LoopGhost
namespace Go.Vm
set_option linter.unusedSimpArgs false
set_option linter.unusedVariables false
open Go.RowKit

inductive VC where
  | skip
  | reg (l : List VI) (keep : List Nat)
  | dreg (l : List VI) (b : List (Nat × Nat)) (keep : List Nat)
  | seq (x y : VC)
  | cond (s : Nat) (x y : VC)
  | block (id : Nat) (x : VC)
  | loop (x : VC)
  | exit (id : Nat)
  | ret

def compC (P : Program) (N : Nat) (K : Nat → List Nat) : Code → Option VC
  | .skip => some .skip
  | .region id ops false => match compL P N ops ops.toList with | some l => some (.reg l (K id)) | none => none
  | .region id ops true => match compL P N ops ops.toList with
    | some l => if okX ops l (bnds ops l) = true then some (.dreg l (bnds ops l) (K id)) else none
    | none => none
  | .seq a b => match compC P N K a, compC P N K b with | some x, some y => some (.seq x y) | _, _ => none
  | .cond (.tmp s) a b => match compC P N K a, compC P N K b with | some x, some y => some (.cond s x y) | _, _ => none
  | .block id a => match compC P N K a with | some x => some (.block id x) | none => none
  | .loop a => match compC P N K a with | some x => some (.loop x) | none => none
  | .exit id => some (.exit id)
  | .ret => some .ret
  | _ => none

def VW (P : Program) (B N : Nat) (vc : VC) (F : Fr) (H : Hp) (Q : VQ) : Prop :=
  ∀ (K : Nat → List Nat) (c : Code), compC P N K c = some vc → ∀ σ w a, HRel σ B H w → FRel σ N F a → c.wp P (Post B N σ w Q) a w

section
variable {P : Program} {B N : Nat} {F : Fr} {H : Hp} {Q : VQ}

theorem VW.mono {vc : VC} {Q' : VQ} (h : VW P B N vc F H Q) (hq : ∀ e F H, Q e F H → Q' e F H) : VW P B N vc F H Q' :=
  fun K c hc σ w a hH hF => wp_mono (h K c hc σ w a hH hF) fun _ _ _ hp => hp.mono hq

theorem compC_inv {K : Nat → List Nat} {c : Code} {vc : VC} (h : compC P N K c = some vc) :
    match vc with
    | .skip => c = .skip
    | .reg l keep => ∃ id ops, c = .region id ops false ∧ compL P N ops ops.toList = some l
    | .dreg l b keep => ∃ id ops, c = .region id ops true ∧ compL P N ops ops.toList = some l ∧ okX ops l b = true
    | .seq x y => ∃ a b, c = .seq a b ∧ compC P N K a = some x ∧ compC P N K b = some y
    | .cond s x y => ∃ a b, c = .cond (.tmp s) a b ∧ compC P N K a = some x ∧ compC P N K b = some y
    | .block id x => ∃ a, c = .block id a ∧ compC P N K a = some x
    | .loop x => ∃ a, c = .loop a ∧ compC P N K a = some x
    | .exit id => c = .exit id
    | .ret => c = .ret := by
  unfold compC at h
  split at h
  · simp at h; subst h; rfl
  · split at h
    · simp at h; subst h; exact ⟨_, _, rfl, by assumption⟩
    · cases h
  · split at h
    · split at h
      · simp at h; subst h; exact ⟨_, _, rfl, by assumption, by assumption⟩
      · cases h
    · cases h
  · split at h
    · simp at h; subst h; exact ⟨_, _, rfl, by assumption, by assumption⟩
    · cases h
  · split at h
    · simp at h; subst h; exact ⟨_, _, rfl, by assumption, by assumption⟩
    · cases h
  · split at h
    · simp at h; subst h; exact ⟨_, rfl, by assumption⟩
    · cases h
  · split at h
    · simp at h; subst h; exact ⟨_, rfl, by assumption⟩
    · cases h
  · simp at h; subst h; rfl
  · simp at h; subst h; rfl
  · cases h

theorem post_self {σ : Sg} {w : World} {a : Act} {e : Exit} (hH : HRel σ B H w) (hF : FRel σ N F a) (h : Q e F H) : Post B N σ w Q e a w :=
  ⟨F, H, σ, h, Sg.le_refl _, hH, hF, Below.refl _ _⟩

theorem VW.skip (h : Q .normal F H) : VW P B N .skip F H Q := by
  intro K c hc σ w a hH hF
  have h1 := compC_inv hc
  simp only at h1
  subst h1
  exact wp_skip (post_self hH hF h)
theorem VW.exit {id : Nat} (h : Q (.exit id) F H) : VW P B N (.exit id) F H Q := by
  intro K c hc σ w a hH hF
  have h1 := compC_inv hc
  simp only at h1
  subst h1
  exact wp_exit (post_self hH hF h)
theorem VW.ret (h : Q .ret F H) : VW P B N .ret F H Q := by
  intro K c hc σ w a hH hF
  have h1 := compC_inv hc
  simp only at h1
  subst h1
  exact wp_ret (post_self hH hF h)

/-- what a region leaves -/
def atEnd (Q : VQ) (keep : List Nat) : VQ := fun e E H => e = .normal ∧ Q .normal (E.only keep) H
theorem atEnd_post {σ : Sg} {w w' : World} {keep : List Nat} {e : Exit} {a' : Act} (h : Post B N σ w (atEnd Q keep) e a' w') : Post B N σ w Q e a' w' := by
  obtain ⟨E, H', σ', ⟨he, hq⟩, h1, h2, h3, h4⟩ := h
  subst he
  exact ⟨E.only keep, H', σ', hq, h1, h2, h3.only keep, h4⟩
theorem VW.reg {l : List VI} {keep : List Nat} (h : VOps P B N l F H (atEnd Q keep)) : VW P B N (.reg l keep) F H Q := fun K c hc σ w a hH hF => by
  obtain ⟨id, ops, rfl, h1⟩ := compC_inv hc
  exact wp_region_list (wpList_mono (fun _ _ _ hp => atEnd_post hp) _ _ _ (h ops _ h1 σ w a hH hF))

/-- what follows, behind a name -/
def Then (Q1 : Fr → Hp → Prop) (Q : VQ) : VQ := fun e F H => match e with | .normal => Q1 F H | e => Q e F H
theorem VW.seq {x y : VC} (h : VW P B N x F H (Then (fun F' H' => VW P B N y F' H' Q) Q)) : VW P B N (.seq x y) F H Q := fun K c hc σ w a hH hF => by
  obtain ⟨c1, c2, rfl, h1, h2⟩ := compC_inv hc
  refine wp_seq (wp_mono (h K c1 h1 σ w a hH hF) ?_)
  intro e a' w' hp
  obtain ⟨F', H', σ', hq, q1, q2, q3, q4⟩ := hp
  cases e with
  | normal => exact wp_mono (hq K c2 h2 σ' w' a' q2 q3) fun _ _ _ hp => hp.lift q1 q4
  | exit id => exact ⟨F', H', σ', hq, q1, q2, q3, q4⟩
  | goto l => exact ⟨F', H', σ', hq, q1, q2, q3, q4⟩
  | ret => exact ⟨F', H', σ', hq, q1, q2, q3, q4⟩
  | panic ch => exact ⟨F', H', σ', hq, q1, q2, q3, q4⟩
  | outgrown => exact ⟨F', H', σ', hq, q1, q2, q3, q4⟩
theorem VW.seqk {x y : VC} (h : ∀ K : Fr → Hp → Prop, (∀ F' H', VW P B N y F' H' Q → K F' H') → VW P B N x F H (Then K Q)) : VW P B N (.seq x y) F H Q :=
  VW.seq (h _ fun _ _ h => h)
theorem VW.cond {s : Nat} {x y : VC} {b : Bool} (hs : F.get s = some (.bool b)) (h1 : b = true → VW P B N x F H Q) (h2 : b = false → VW P B N y F H Q) : VW P B N (.cond s x y) F H Q := fun K c hc σ w a hH hF => by
  obtain ⟨c1, c2, rfl, k1, k2⟩ := compC_inv hc
  have r := hF.2.2 _ _ hs
  have e := bool_inv r
  cases b with
  | true => exact wp_cond_true (by simpa [Act.eval] using e) (h1 rfl K c1 k1 σ w a hH hF)
  | false => exact wp_cond_false (by simpa [Act.eval] using e) (h2 rfl K c2 k2 σ w a hH hF)
def inB (id : Nat) (Q : VQ) : VQ := fun e F H => match e with | .exit i => if i = id then Q .normal F H else Q (.exit i) F H | e => Q e F H
theorem VW.block {id : Nat} {x : VC} (h : VW P B N x F H (inB id Q)) : VW P B N (.block id x) F H Q := fun K c hc σ w a hH hF => by
  obtain ⟨c1, rfl, h1⟩ := compC_inv hc
  refine wp_block (wp_mono (h K c1 h1 σ w a hH hF) ?_)
  intro e a' w' hp
  obtain ⟨F', H', σ', hq, q1, q2, q3, q4⟩ := hp
  cases e with
  | exit i =>
    simp only [inB] at hq
    simp only [Exit.inBlock]
    split
    · rename_i hi; rw [if_pos hi] at hq; exact ⟨F', H', σ', hq, q1, q2, q3, q4⟩
    · rename_i hi; rw [if_neg hi] at hq; exact ⟨F', H', σ', hq, q1, q2, q3, q4⟩
  | normal => exact ⟨F', H', σ', hq, q1, q2, q3, q4⟩
  | goto l => exact ⟨F', H', σ', hq, q1, q2, q3, q4⟩
  | ret => exact ⟨F', H', σ', hq, q1, q2, q3, q4⟩
  | panic ch => exact ⟨F', H', σ', hq, q1, q2, q3, q4⟩
  | outgrown => exact ⟨F', H', σ', hq, q1, q2, q3, q4⟩
/-- a loop: an invariant with a number that every round lowers -/
theorem VW.loop {x : VC} (I : Nat → Fr → Hp → Prop) (n0 : Nat) (h0 : I n0 F H)
    (round : ∀ n F' H', I n F' H' → VW P B N x F' H' (Then (fun F2 H2 => ∃ m, m < n ∧ I m F2 H2) Q)) : VW P B N (.loop x) F H Q := fun K c hc σ w a hH hF => by
  obtain ⟨c1, rfl, h1⟩ := compC_inv hc
  refine wp_loop_ghost (fun n a' w' => ∃ F' H' σ', I n F' H' ∧ σ.le σ' ∧ HRel σ' B H' w' ∧ FRel σ' N F' a' ∧ Below B w w') n0 ⟨F, H, σ, h0, Sg.le_refl _, hH, hF, Below.refl _ _⟩ ?_
  intro n a1 w1 ⟨F1, H1, σ1, hI, q1, q2, q3, q4⟩
  refine wp_mono (round n F1 H1 hI K c1 h1 σ1 w1 a1 q2 q3) ?_
  intro e a' w' hp
  obtain ⟨F', H', σ', hq, r1, r2, r3, r4⟩ := hp
  cases e with
  | normal =>
    obtain ⟨m, hm, hI'⟩ := hq
    exact ⟨m, hm, F', H', σ', hI', Sg.le_trans q1 r1, r2, r3, q4.trans r4⟩
  | exit id => exact ⟨F', H', σ', hq, Sg.le_trans q1 r1, r2, r3, q4.trans r4⟩
  | goto l => exact ⟨F', H', σ', hq, Sg.le_trans q1 r1, r2, r3, q4.trans r4⟩
  | ret => exact ⟨F', H', σ', hq, Sg.le_trans q1 r1, r2, r3, q4.trans r4⟩
  | panic ch => exact ⟨F', H', σ', hq, Sg.le_trans q1 r1, r2, r3, q4.trans r4⟩
  | outgrown => exact ⟨F', H', σ', hq, Sg.le_trans q1 r1, r2, r3, q4.trans r4⟩

/-! ### a region that draws its order -/
theorem VW.dreg {l : List VI} {b : List (Nat × Nat)} {keep : List Nat} (hs : List Hp) (hm : P.follows .mixedOrders = true) (hC : hs[0]? = some H) (h : VX P hs l b 0 F H fun E H' => Q .normal (E.only keep) H') : VW P B N (.dreg l b keep) F H Q := fun K c hc σ w a hH hF => by
  obtain ⟨id, ops, rfl, h1, h2⟩ := compC_inv hc
  exact x_region hm h1 h2 hC h hH hF fun E' H' a' w' σ' q1 q2 q3 q4 q5 => ⟨E'.only keep, H', σ', q1, q2, q4, q3.only keep, q5⟩

/-- the value is one and the same in every world -/
def VV.flat : VV → Bool
  | .bool _ | .int _ _ | .str _ => true
  | .agg cs => flats cs
  | .tup cs => flats cs
  | _ => false
where flats : List VV → Bool
  | [] => true
  | v :: l => v.flat && flats l

/-! ### functions -/
inductive RV where
  | t (s : Nat)
  | c (s n : Nat) (ag : Bool)
def compR (P : Program) : List ResultVar → Option (List RV)
  | [] => some []
  | .tmp s :: r => match compR P r with | some l => some (.t s :: l) | none => none
  | .cell s t :: r => match aggOf P t, compR P r with | some (n, b), some l => some (.c s n b :: l) | _, _ => none
def resL (F : Fr) (H : Hp) : List RV → Option (List VV)
  | [] => some []
  | .t s :: r => match F.get s, resL F H r with | some v, some l => some (v :: l) | _, _ => none
  | .c s n ag :: r => match (VOp.load n ag (.t s)).ev F H, resL F H r with | some v, some l => some (v :: l) | _, _ => none
def resV (F : Fr) (H : Hp) (l : List RV) : Option VV :=
  match resL F H l with
  | some [v] => some v
  | some vs => some (.tup vs)
  | none => none
def argsF : Nat → List VV → Fr
  | _, [] => []
  | k, v :: r => (k, v) :: argsF (k + 1) r

theorem argsF_get : ∀ (l : List VV) (k s : Nat) (v : VV), (argsF k l).get s = some v → k ≤ s ∧ l[s - k]? = some v
  | [], k, s, v, h => by simp [argsF, Fr.get] at h
  | x :: l, k, s, v, h => by
    simp only [argsF, Fr.get] at h
    split at h
    · rename_i hk; subst hk; simp at h; subst h; simp
    · rename_i hk
      obtain ⟨h1, h2⟩ := argsF_get l (k + 1) s v h
      refine ⟨by omega, ?_⟩
      rw [show s - k = (s - (k + 1)) + 1 by omega]
      simpa using h2

def resSem (tmps : Array Value) : ResultVar → Sem Value
  | .tmp t => pure (tmps.getD t undef)
  | .cell a t => do loadVar t (← asAddr (tmps.getD a undef))
theorem results_eq (fn : Func) (tmps : Array Value) : results fn tmps = (do let vs ← fn.results.mapM (resSem tmps); pure (if h : vs.size = 1 then vs[0] else .tuple vs)) := by
  unfold results
  refine congrArg (fun g => (Array.mapM g fn.results >>= fun vs => (pure (if h : vs.size = 1 then vs[0] else Value.tuple vs) : Sem Value))) ?_
  funext r
  cases r <;> rfl

theorem resL_ok {σ : Sg} {w : World} {a : Act} (hH : HRel σ B H w) (hF : FRel σ N F a) : ∀ (rs : List ResultVar) (l : List RV) (vs : List VV), compR P rs = some l → resL F H l = some vs →
    ∃ vs', LRel σ vs vs' ∧ (rs.mapM (resSem a.tmps)).run P w = .ok vs' w
  | [], l, vs, hc, hr => by simp [compR] at hc; subst hc; simp [resL] at hr; subst hr; exact ⟨[], .nil, by simp⟩
  | .tmp s :: rs, l, vs, hc, hr => by
    simp only [compR] at hc
    cases h1 : compR P rs with
    | none => simp [h1] at hc
    | some l' =>
      simp [h1] at hc; subst hc
      simp only [resL] at hr
      cases h2 : F.get s with
      | none => simp [h2] at hr
      | some v =>
        cases h3 : resL F H l' with
        | none => simp [h2, h3] at hr
        | some vs0 =>
          simp [h2, h3] at hr; subst hr
          obtain ⟨vs', q1, q2⟩ := resL_ok hH hF rs l' vs0 h1 h3
          refine ⟨a.tmps.getD s undef :: vs', .cons (hF.2.2 _ _ h2) q1, ?_⟩
          rw [List.mapM_cons]
          simp only [resSem, Sem.run_bind, Sem.run_pure, Result.andThen_ok, q2]
  | .cell s t :: rs, l, vs, hc, hr => by
    simp only [compR] at hc
    cases h0 : aggOf P t with
    | none => simp [h0] at hc
    | some nb =>
      obtain ⟨n, b⟩ := nb
      cases h1 : compR P rs with
      | none => simp [h0, h1] at hc
      | some l' =>
        simp [h0, h1] at hc; subst hc
        simp only [resL] at hr
        cases h2 : (VOp.load n b (.t s)).ev F H with
        | none => simp [h2] at hr
        | some v =>
          cases h3 : resL F H l' with
          | none => simp [h2, h3] at hr
          | some vs0 =>
            simp [h2, h3] at hr; subst hr
            obtain ⟨vs', q1, q2⟩ := resL_ok hH hF rs l' vs0 h1 h3
            have hl := read_load (P := P) (o := { dst := none, op := .load t (.tmp s), type := 0, pos := "", after := #[], guard := none }) rfl h0 (y := .t s) rfl hH hF h2
            obtain ⟨v', r1, r2⟩ := hl
            have r3 := r2 w (Below.refl _ _)
            -- the pointer that stands there
            have hp : ∃ ad, a.tmps.getD s undef = .pointer (some ad) := by
              simp only [VOp.ev, Od.ev] at h2
              cases h4 : F.get s with
              | none => simp [h4] at h2
              | some u =>
                cases u <;> simp [h4] at h2
                rename_i p
                cases p with
                | none => simp at h2
                | some p => obtain ⟨ad, e, _⟩ := ptr_inv (hF.2.2 _ _ h4); exact ⟨ad, e⟩
            obtain ⟨ad, had⟩ := hp
            have r4 : (loadVar t ad).run P w = .ok v' w := by
              have : (execOp a.eval { dst := none, op := .load t (.tmp s), type := 0, pos := "", after := #[], guard := none }).run P w = ((loadVar t ad).run P w).andThen fun v w' => .ok (.value v) w' := by
                simp only [execOp, Act.eval, had, Instr.loadAt, Instr.sureAddr, Sem.run_bind, Sem.run_pure, Result.andThen_ok]
              rw [this] at r3
              cases hx : (loadVar t ad).run P w with
              | ok x w' => rw [hx] at r3; simp at r3; rw [r3.1, r3.2]
              | halt x w' => rw [hx] at r3; simp at r3
            refine ⟨v' :: vs', .cons r1 q1, ?_⟩
            rw [List.mapM_cons]
            simp only [resSem, had, asAddr, Sem.run_bind, Sem.run_pure, Result.andThen_ok, r4, q2]

theorem resV_ok {σ : Sg} {w : World} {a : Act} {fn : Func} {l : List RV} {v : VV} (hH : HRel σ B H w) (hF : FRel σ N F a) (hc : compR P fn.results.toList = some l) (hr : resV F H l = some v) :
    ∃ v', VRel σ v v' ∧ (results fn a.tmps).run P w = .ok v' w := by
  unfold resV at hr
  have key : ∀ vs, resL F H l = some vs → ∃ vs' : Array Value, LRel σ vs vs'.toList ∧ (results fn a.tmps).run P w = .ok (if h : vs'.size = 1 then vs'[0] else .tuple vs') w := by
    intro vs hvs
    obtain ⟨vs', q1, q2⟩ := resL_ok hH hF fn.results.toList l vs hc hvs
    refine ⟨vs'.toArray, by simpa using q1, ?_⟩
    rw [results_eq, Array.mapM_eq_mapM_toList]
    simp only [Sem.run_bind, Sem.run_map, q2, Result.andThen_ok, Sem.run_pure]
  split at hr
  · rename_i v0 h0
    simp at hr; subst hr
    obtain ⟨vs', q1, q2⟩ := key _ h0
    have hsz : vs'.size = 1 := by have := q1.length; simpa using this.symm
    rw [dif_pos hsz] at q2
    refine ⟨_, ?_, q2⟩
    obtain ⟨u, r1, r2⟩ := q1.get (i := 0) (v := v0) (by simp)
    have : vs'[0] = u := by simp at r1; rw [Array.getElem?_eq_getElem (by omega)] at r1; simpa using r1
    rw [this]; exact r2
  · rename_i vs h0 h1
    simp at hr; subst hr
    obtain ⟨vs', q1, q2⟩ := key _ h1
    have hsz : ¬ vs'.size = 1 := by
      intro hsz
      have hl : vs.length = vs'.size := by have := q1.length; rw [Array.length_toList] at this; exact this
      rw [hsz] at hl
      match vs, hl with
      | [x], _ => exact h0 x rfl
    rw [dif_neg hsz] at q2
    exact ⟨_, .tup q1, q2⟩
  · cases hr

theorem FnV.enter {f : FuncId} {fn : Func} {c : Code} {vc : VC} {K : Nat → List Nat} {args : List VV} {rs : List RV} {R : VV → Hp → Prop} (hf : P.funcs[f]? = some fn) (hn : (fn.name == "runtime.NumGoroutine") = false) (hb : fn.body = some c)
    (hc : compC P fn.ntmps K c = some vc) (hr : compR P fn.results.toList = some rs) (hl : args.length ≤ fn.ntmps)
    (h : ∀ B, VW P B fn.ntmps vc (argsF 0 args) H fun e F' H' => (e = .ret ∨ e = .normal) ∧ ∃ r, resV F' H' rs = some r ∧ R r H') : FnV P f args H R := by
  refine ⟨⟨fn, hf, hn, by rw [hb]; rfl⟩, fun σ B w vs hH hargs => ?_⟩
  refine calls_of_wp hf hb ?_
  have hvl : vs.size = args.length := by have := hargs.length; simpa using this.symm
  have hF : FRel σ fn.ntmps (argsF 0 args) { tmps := vs ++ Array.replicate (fn.ntmps - vs.size) undef, defers := [] } := by
    refine ⟨by simp; omega, rfl, fun s v e => ?_⟩
    obtain ⟨_, h2⟩ := argsF_get args 0 s v e
    obtain ⟨v', r1, r2⟩ := hargs.get h2
    simp at r1
    have hs : s < vs.size := (Array.getElem?_eq_some_iff.1 r1).1
    rw [Array.getD_eq_getD_getElem?, Array.getElem?_append_left hs, r1]
    exact r2
  refine wp_mono (h B K c hc σ w _ hH hF) ?_
  intro e a' w' hp
  obtain ⟨F', H', σ', ⟨he, r, hr1, hr2⟩, q1, q2, q3, q4⟩ := hp
  obtain ⟨v', s1, s2⟩ := resV_ok q2 q3 hr hr1
  rcases he with rfl | rfl
  · exact ⟨q3.2.1, v', s2, r, v', H', σ', rfl, s1, hr2, q1, q2, q4⟩
  · exact ⟨q3.2.1, v', s2, r, v', H', σ', rfl, s1, hr2, q1, q2, q4⟩
end
end Go.Vm
