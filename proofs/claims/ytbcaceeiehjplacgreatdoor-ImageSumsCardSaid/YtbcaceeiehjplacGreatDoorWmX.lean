/- The run is sound: functions; the whole machine. -/
import Derived.Test.YtbcaceeiehjplacGreatDoorWmW
namespace Go.Wm
set_option linter.unusedVariables false
set_option linter.unusedSimpArgs false

/-- the row is that of a function of the program -/
def RowFOk (P : Program) (r : FRow) : Prop := ∃ fn c K, P.funcs[r.f]? = some fn ∧ (fn.name == "runtime.NumGoroutine") = false ∧ fn.body = some c ∧ compC P fn.ntmps K c = some (strip r.vc) ∧ compR P fn.results.toList = some r.rs ∧ fn.ntmps = r.n ∧ fn.ntmps ≤ dslot
def TabOk (P : Program) (TT : Tree FRow) : Prop := ∀ i r, treeG TT i = some r → r.vc = .bad ∨ RowFOk P r
def TAll (Q : FRow → Prop) : Tree FRow → Prop
  | .e => True
  | .n v l r => Q v ∧ TAll Q l ∧ TAll Q r
theorem TAll.get {Q : FRow → Prop} : ∀ {t : Tree FRow}, TAll Q t → ∀ i r, treeG t i = some r → Q r
  | .e, _, i, r, h => by cases h
  | .n v l r, ⟨h1, h2, h3⟩, i, x, h => by
    rw [treeG_n] at h
    split at h
    · cases h; exact h1
    · split at h
      · exact h2.get _ _ h
      · exact h3.get _ _ h

section
variable {P : Program} {n : Nat} {TT : Tree FRow}
theorem resK_some {rs : List RV} {F : Fr} {T : Tr} {H : Hp} {k : VV → Tr → Option Ans} {ans : Ans} (hT : TRep T H) (h : resK rs F T k = some ans) : ∃ v, resV F H.g rs = some v ∧ k v T = some ans := by
  obtain ⟨v, h1, h2⟩ := obK_some (show obK (resV F (treeG T.t) rs) _ = some ans from h)
  rw [hT.fn] at h1
  rw [vvK_eq] at h2
  exact ⟨v, h1, h2⟩
theorem FnD.mono {f : FuncId} {args : List VV} {H : Hp} {R R' : VV → Hp → Prop} (h : FnD P f args H R) (hr : ∀ r H', R r H' → R' r H') : FnD P f args H R' :=
  ⟨h.1, fun σ B w vs h1 h2 => (h.2 σ B w vs h1 h2).mono fun e u w' h => ⟨h.1, h.2.mono hr⟩⟩
theorem DRun.mono {Q Q' : Hp → Prop} (hq : ∀ H, Q H → Q' H) : ∀ {ds : List VV} {H : Hp}, DRun P ds H Q → DRun P ds H Q'
  | [], H, h => hq H h
  | .tup (.fn f caps :: as) :: ds, H, h => FnD.mono (show FnD P f (as ++ caps) H _ from h) fun _ H' h => DRun.mono hq h
  | .map (some b) :: ds, H, h => ⟨h.1, DRun.mono hq h.2⟩
  | .undef :: _, _, h | .bool _ :: _, _, h | .int _ _ :: _, _, h | .str _ :: _, _, h | .ptr _ :: _, _, h | .sl _ _ _ :: _, _, h | .fn _ _ :: _, _, h | .nilFn :: _, _, h | .agg _ :: _, _, h | .tup [] :: _, _, h | .map none :: _, _, h | .nilI :: _, _, h | .yield _ :: _, _, h | .ifc _ _ :: _, _, h => h.elim
  | .tup (.undef :: _) :: _, _, h | .tup (.bool _ :: _) :: _, _, h | .tup (.int _ _ :: _) :: _, _, h | .tup (.str _ :: _) :: _, _, h | .tup (.ptr _ :: _) :: _, _, h | .tup (.sl _ _ _ :: _) :: _, _, h | .tup (.nilFn :: _) :: _, _, h | .tup (.agg _ :: _) :: _, _, h | .tup (.tup _ :: _) :: _, _, h | .tup (.map _ :: _) :: _, _, h | .tup (.nilI :: _) :: _, _, h | .tup (.yield _ :: _) :: _, _, h | .tup (.ifc _ _ :: _) :: _, _, h => h.elim
theorem drunK_ok {dl : CallK} (hd : DefOk P dl) {k : Tr → Option Ans} : ∀ (ds : List VV) (T : Tr) (H : Hp) (ans : Ans), drunK dl ds T k = some ans → TRep T H →
    DRun P ds H (fun H2 => ∃ T2 a', TRep T2 H2 ∧ Jr T T2 ∧ k T2 = some a' ∧ ∀ o ∈ a', o ∈ ans) ∧ ∃ H2 T2 a', TRep T2 H2 ∧ Jr T T2 ∧ k T2 = some a' ∧ ∀ o ∈ a', o ∈ ans
  | [], T, H, ans, h, hT => ⟨⟨T, ans, hT, Jr.refl T, h, fun _ h => h⟩, H, T, ans, hT, Jr.refl T, h, fun _ h => h⟩
  | x :: ds, T, H, ans, h, hT => by
    have up : ∀ {T1 H1 a1}, TRep T1 H1 → Jr T T1 → drunK dl ds T1 k = some a1 → (∀ o ∈ a1, o ∈ ans) →
        DRun P ds H1 (fun H2 => ∃ T2 a', TRep T2 H2 ∧ Jr T T2 ∧ k T2 = some a' ∧ ∀ o ∈ a', o ∈ ans) ∧ ∃ H2 T2 a', TRep T2 H2 ∧ Jr T T2 ∧ k T2 = some a' ∧ ∀ o ∈ a', o ∈ ans := fun {T1 H1 a1} g1 g2 g3 g4 => by
      obtain ⟨q1, H2, T2, a', q2, q3, q4, q5⟩ := drunK_ok hd ds T1 H1 a1 g3 g1
      exact ⟨DRun.mono (fun H2 ⟨T2, a', t1, t2, t3, t4⟩ => ⟨T2, a', t1, g2.trans t2, t3, fun o ho => g4 o (t4 o ho)⟩) q1, H2, T2, a', q2, g2.trans q3, q4, fun o ho => g4 o (q5 o ho)⟩
    have h : drun1 dl x T (fun H => drunK dl ds H k) = some ans := h
    unfold drun1 at h
    split at h
    · rename_i b
      split at h
      case h_2 => cases h
      rename_i hb
      rw [hT.g] at hb
      obtain ⟨T1, r1, r2, r3⟩ := upK_some h hT
      rw [applyU_set (List.getElem?_eq_some_iff.1 hb).1] at r1
      obtain ⟨q1, q2⟩ := up r1 r2 r3 fun _ h => h
      exact ⟨⟨hb, q1⟩, q2⟩
    · rename_i g caps as
      rw [appK_eq] at h
      obtain ⟨q1, v, H', T', a', q2, q3, q4, q5⟩ := hd _ _ T H _ ans hT h
      exact ⟨FnD.mono q1 fun r H' ⟨T', a', t1, t2, t3, t4⟩ => (up t1 t2 t3 t4).1, (up q2 q3 q4 q5).2⟩
    · cases h

theorem call_args {r : FRow} {f : FuncId} {args : List VV} (h : and (Nat.beq r.f f) (Nat.ble (lenN args) r.n) = true) : r.f = f ∧ args.length ≤ r.n := by
  obtain ⟨h1, h2⟩ := and_true h
  exact ⟨Nat.eq_of_beq_eq_true h1, by rw [← lenN_eq]; exact Nat.le_of_ble_eq_true h2⟩
theorem endV {e : VE} {x : Option Ans} {ans : Ans} (h : VE.rec (motive := fun _ => Option Ans) x x (fun _ => none) e = some ans) : (VE.to e = .ret ∨ VE.to e = .normal) ∧ x = some ans := by
  cases e with
  | normal => exact ⟨.inr rfl, h⟩
  | ret => exact ⟨.inl rfl, h⟩
  | exit i => cases h

theorem m_call_ok (hm : P.follows .mixedOrders = true) (ht : TabOk P TT) {ih : Mach} (hc : CallOk P ih.c) (hy : YldOk P ih.y) (hd : DefOk P ih.d) : CallOk P (m_call TT n ih) := by
  intro f args T H k ans hT h
  obtain ⟨⟨rf, rN, vc, rs⟩, h1, h2⟩ := obK_some (show obK (treeG TT f) _ = some ans from h)
  obtain ⟨h3, h4⟩ := brec_some (show Bool.rec (motive := fun _ => Option Ans) none _ (and (Nat.beq rf f) (Nat.ble (lenN args) rN)) = some ans from h2)
  obtain ⟨rfl, hl⟩ := call_args (r := ⟨rf, rN, vc, rs⟩) h3
  rw [argsK_eq] at h4
  rcases ht _ _ h1 with hb | ⟨fn, c, K, k1, k2, k3, k4, k5, k6, k7⟩
  · cases hb; cases h4
  have fin : ∀ {ve F' T' H' a'}, endK ih.d rs k ve F' T' = some a' → TRep T' H' → Jr T T' → (∀ o ∈ a', o ∈ ans) → (VE.to ve = .ret ∨ VE.to ve = .normal) ∧
      DRun P F'.dl H' (fun H2 => ∃ r, resV F' H2.g rs = some r ∧ AfV T k ans r H2) ∧ ∃ v H2, AfV T k ans v H2 := fun {ve F' T' H' a'} g1 g2 g3 g4 => by
    obtain ⟨e1, e2⟩ := endV g1
    refine ⟨e1, ?_⟩
    rw [geto_eq] at e2
    unfold Fr.dl
    cases hx : F'.get dslot with
    | none =>
      rw [hx] at e2
      obtain ⟨v, s1, s2⟩ := resK_some g2 e2
      exact ⟨⟨v, s1, T', a', g2, g3, s2, g4⟩, v, H', T', a', g2, g3, s2, g4⟩
    | some o =>
      rw [hx] at e2
      obtain ⟨ds, rfl, e3⟩ := tupOf_some e2
      obtain ⟨q1, H2, T2, a2, q2, q3, q4, q5⟩ := drunK_ok hd ds T' H' a' e3 g2
      have one : ∀ {T2 H2 a2}, TRep T2 H2 → Jr T' T2 → resK rs F' T2 k = some a2 → (∀ o ∈ a2, o ∈ a') → ∃ r, resV F' H2.g rs = some r ∧ AfV T k ans r H2 := fun {T2 H2 a2} u1 u2 u3 u4 => by
        obtain ⟨v, s1, s2⟩ := resK_some u1 u3
        exact ⟨v, s1, T2, a2, u1, g3.trans u2, s2, fun o ho => g4 o (u4 o ho)⟩
      refine ⟨DRun.mono (fun H2 ⟨T2, a2, u1, u2, u3, u4⟩ => one u1 u2 u3 u4) q1, ?_⟩
      obtain ⟨v, _, s⟩ := one q2 q3 q4 q5
      exact ⟨v, H2, s⟩
  have hf := (runCK_fine (n := n) hm hc hy vc).1
  obtain ⟨_, ve, F', H', T', a', q2, q3, q4, q5⟩ := hf 0 rN false (argsF 0 args) T H _ ans h4 hT (fun e => by cases e)
  refine ⟨FnV.enter (K := K) k1 k2 k3 k4 k5 (by rw [k6]; exact hl) k7 fun B => (hf B fn.ntmps false (argsF 0 args) T H _ ans h4 hT (fun e => by cases e)).1.mono fun e F' H' ha => ?_, (fin q4 q2 q3 q5).2.2⟩
  obtain ⟨ve, T', a', rfl, t1, t2, t3, t4⟩ := ha
  obtain ⟨u1, u2, _⟩ := fin t3 t1 t2 t4
  exact ⟨u1, u2⟩

theorem m_defer_ok (hm : P.follows .mixedOrders = true) (ht : TabOk P TT) {ih : Mach} (hc : CallOk P ih.c) (hy : YldOk P ih.y) : DefOk P (m_defer TT n ih) := by
  intro f args T H k ans hT h
  obtain ⟨⟨rf, rN, vc, rs⟩, h1, h2⟩ := obK_some (show obK (treeG TT f) _ = some ans from h)
  obtain ⟨h3, h4⟩ := brec_some (show Bool.rec (motive := fun _ => Option Ans) none _ (and (Nat.beq rf f) (Nat.ble (lenN args) rN)) = some ans from h2)
  obtain ⟨rfl, hl⟩ := call_args (r := ⟨rf, rN, vc, rs⟩) h3
  rw [argsK_eq] at h4
  rcases ht _ _ h1 with hb | ⟨fn, c, K, k1, k2, k3, k4, k5, k6, k7⟩
  · cases hb; cases h4
  have fin : ∀ {ve F' T' H' a'}, endD rs k ve F' T' = some a' → TRep T' H' → Jr T T' → (∀ o ∈ a', o ∈ ans) → (VE.to ve = .ret ∨ VE.to ve = .normal) ∧ F'.get dslot = none ∧ ∃ r, resV F' H'.g rs = some r ∧ AfV T k ans r H' := fun {ve F' T' H' a'} g1 g2 g3 g4 => by
    obtain ⟨e1, e2⟩ := endV g1
    refine ⟨e1, ?_⟩
    rw [geto_eq] at e2
    cases hx : F'.get dslot with
    | none =>
      rw [hx] at e2
      obtain ⟨v, s1, s2⟩ := resK_some g2 e2
      exact ⟨rfl, v, s1, T', a', g2, g3, s2, g4⟩
    | some o => rw [hx] at e2; cases e2
  unfold dvc at h4
  split at h4
  · rename_i d d2 s keep y
    cases hs : Nat.beq s d with
    | false => rw [hs] at h4; cases h4
    | true =>
    rw [hs] at h4
    have hs := Nat.eq_of_beq_eq_true hs
    subst hs
    simp only [cond_true, onlyK_eq] at h4
    have hf := (runCK_fine (n := n) hm hc hy y).1
    obtain ⟨_, ve, F', H', T', a', q2, q3, q4, q5⟩ := hf 0 rN false _ T H _ ans h4 hT (fun e => by cases e)
    refine ⟨FnD.rcv (K := K) k1 k2 k3 k4 k5 (by rw [k6]; exact hl) k7 fun B => (hf B fn.ntmps false _ T H _ ans h4 hT (fun e => by cases e)).1.mono fun e F' H' ha => ?_, ?_⟩
    · obtain ⟨ve, T', a', rfl, t1, t2, t3, t4⟩ := ha
      exact fin t3 t1 t2 t4
    · obtain ⟨_, _, v, _, u⟩ := fin q4 q2 q3 q5
      exact ⟨v, H', u⟩
  · have hf := (runCK_fine (n := n) hm hc hy vc).1
    obtain ⟨_, ve, F', H', T', a', q2, q3, q4, q5⟩ := hf 0 rN false (argsF 0 args) T H _ ans h4 hT (fun e => by cases e)
    refine ⟨FnD.enter (K := K) k1 k2 k3 k4 k5 (by rw [k6]; exact hl) k7 fun B => (hf B fn.ntmps false (argsF 0 args) T H _ ans h4 hT (fun e => by cases e)).1.mono fun e F' H' ha => ?_, ?_⟩
    · obtain ⟨ve, T', a', rfl, t1, t2, t3, t4⟩ := ha
      exact fin t3 t1 t2 t4
    · obtain ⟨_, _, v, _, u⟩ := fin q4 q2 q3 q5
      exact ⟨v, H', u⟩

theorem m_yield_ok (hm : P.follows .mixedOrders = true) {ih : Mach} (hc : CallOk P ih.c) (hy : YldOk P ih.y) : YldOk P (m_yield n ih) := by
  intro b args T H k ans hT h
  unfold m_yield at h
  split at h
  case h_2 => cases h
  rename_i r hb
  rw [hT.g] at hb
  cases hg : (Nat.beq r.st 0 && (noD r.va && noD r.vb)) with
  | false => rw [hg] at h; cases h
  | true =>
  rw [hg] at h
  simp only [cond_true] at h
  simp only [Bool.and_eq_true] at hg
  obtain ⟨hst, hva, hvb⟩ := hg
  obtain ⟨F, hz, h⟩ := obK_some h
  -- behind the round
  have fin2 : ∀ {e : VE} {T3 : Tr} {H3 : Hp} {a3 : Ans}, (match treeG T3.t b with
      | some (.obj (.loop r2)) => match e with
          | .normal => upK [(b, .obj (.loop { r2 with st := 0, pend := none }))] T3 fun H4 => k (.bool true) H4
          | .ret => upK [(b, .obj (.loop { r2 with st := 1, pend := some .ret }))] T3 fun H4 => k (.bool false) H4
          | .exit i => upK [(b, .obj (.loop { r2 with st := 1, pend := some (.exit i) }))] T3 fun H4 => k (.bool false) H4
      | _ => none) = some a3 → TRep T3 H3 → Jr T T3 → (∀ o ∈ a3, o ∈ ans) → ∃ r2, H3[b]? = some (.obj (.loop r2)) ∧
      ((VE.to e = .normal ∧ AfV T k ans (.bool true) (H3.set b (.obj (.loop { r2 with st := 0, pend := none })))) ∨ (VE.to e = .ret ∧ AfV T k ans (.bool false) (H3.set b (.obj (.loop { r2 with st := 1, pend := some .ret })))) ∨
        ∃ i, VE.to e = .exit i ∧ AfV T k ans (.bool false) (H3.set b (.obj (.loop { r2 with st := 1, pend := some (.exit i) })))) := fun {e T3 H3 a3} g1 g2 g3 g4 => by
    split at g1
    case h_2 => cases g1
    rename_i r2 hb2
    rw [g2.g] at hb2
    have hlt := (List.getElem?_eq_some_iff.1 hb2).1
    refine ⟨r2, hb2, ?_⟩
    cases e with
    | normal =>
      obtain ⟨T4, s1, s2, s3⟩ := upK_some g1 g2
      rw [applyU_set hlt] at s1
      exact .inl ⟨rfl, T4, a3, s1, g3.trans s2, s3, g4⟩
    | ret =>
      obtain ⟨T4, s1, s2, s3⟩ := upK_some g1 g2
      rw [applyU_set hlt] at s1
      exact .inr (.inl ⟨rfl, T4, a3, s1, g3.trans s2, s3, g4⟩)
    | exit i =>
      obtain ⟨T4, s1, s2, s3⟩ := upK_some g1 g2
      rw [applyU_set hlt] at s1
      exact .inr (.inr ⟨i, rfl, T4, a3, s1, g3.trans s2, s3, g4⟩)
  have hfa := (runCK_fine (n := n) hm hc hy r.va).1
  have hfb := (runCK_fine (n := n) hm hc hy r.vb).1
  have fin1 : ∀ {e : VE} {F1 : Fr} {T1 : Tr} {H1 : Hp} {a1 : Ans}, (match e with
    | .normal => match treeG T1.t b with
      | some (.obj (.loop r1)) => bif Nat.beq r1.st 0 then upK [(b, .obj (.loop { r1 with st := 2 }))] T1 fun H2 => runCK r.vb ih.c ih.y n F1 H2 fun e _ H3 => match treeG H3.t b with
        | some (.obj (.loop r2)) => match e with
          | .normal => upK [(b, .obj (.loop { r2 with st := 0, pend := none }))] H3 fun H4 => k (.bool true) H4
          | .ret => upK [(b, .obj (.loop { r2 with st := 1, pend := some .ret }))] H3 fun H4 => k (.bool false) H4
          | .exit i => upK [(b, .obj (.loop { r2 with st := 1, pend := some (.exit i) }))] H3 fun H4 => k (.bool false) H4
        | _ => none else none
      | _ => none
    | _ => none) = some a1 → TRep T1 H1 → Jr T T1 → (∀ o ∈ a1, o ∈ ans) → VE.to e = .normal ∧ (∃ r1, H1[b]? = some (.obj (.loop r1)) ∧ r1.st = 0 ∧ ∀ B N, VW P B N true r.vb F1 (H1.set b (.obj (.loop { r1 with st := 2 }))) fun e F2 H2 => ∃ r2, H2[b]? = some (.obj (.loop r2)) ∧
      ((e = .normal ∧ AfV T k ans (.bool true) (H2.set b (.obj (.loop { r2 with st := 0, pend := none })))) ∨ (e = .ret ∧ AfV T k ans (.bool false) (H2.set b (.obj (.loop { r2 with st := 1, pend := some .ret })))) ∨
        ∃ i, e = .exit i ∧ AfV T k ans (.bool false) (H2.set b (.obj (.loop { r2 with st := 1, pend := some (.exit i) }))))) ∧ ∃ v H2, AfV T k ans v H2 := fun {e F1 T1 H1 a1} g1 g2 g3 g4 => by
    cases e with
    | ret => cases g1
    | exit i => cases g1
    | normal =>
      simp only at g1
      split at g1
      case h_2 => cases g1
      rename_i r1 hb1
      rw [g2.g] at hb1
      cases hs1 : Nat.beq r1.st 0 with
      | false => rw [hs1] at g1; cases g1
      | true =>
      rw [hs1] at g1
      simp only [cond_true] at g1
      obtain ⟨T2, s1, s2, s3⟩ := upK_some g1 g2
      rw [applyU_set (List.getElem?_eq_some_iff.1 hb1).1] at s1
      have key := fun B N => hfb B N true F1 T2 _ _ a1 s3 s1 (fun _ => hvb)
      refine ⟨rfl, ⟨r1, hb1, Nat.eq_of_beq_eq_true hs1, fun B N => ?_⟩, ?_⟩
      · have := (key B N).1
        rw [noD_strip hvb] at this
        refine this.mono fun e F2 H2 ha => ?_
        obtain ⟨ve, T3, a3, rfl, t1, t2, t3, t4⟩ := ha
        exact fin2 t3 t1 ((g3.trans s2).trans t2) fun o ho => g4 o (t4 o ho)
      · obtain ⟨ve, F2, H2, T3, a3, t1, t2, t3, t4⟩ := (key 0 0).2
        obtain ⟨r2, _, h⟩ := fin2 t3 t1 ((g3.trans s2).trans t2) fun o ho => g4 o (t4 o ho)
        rcases h with ⟨_, h⟩ | ⟨_, h⟩ | ⟨_, _, h⟩ <;> exact ⟨_, _, h⟩
  have key := fun B N => hfa B N true F T H _ ans h hT (fun _ => hva)
  refine ⟨YldV.round hb (Nat.eq_of_beq_eq_true hst) hz fun B N => ?_, ?_⟩
  · have := (key B N).1
    rw [noD_strip hva] at this
    refine this.mono fun e F1 H1 ha => ?_
    obtain ⟨ve, T1, a1, rfl, t1, t2, t3, t4⟩ := ha
    obtain ⟨u1, ⟨r1, u2, u3, u4⟩, _⟩ := fin1 t3 t1 t2 t4
    exact ⟨u1, r1, u2, u3, u4 B N⟩
  · obtain ⟨ve, F1, H1, T1, a1, t1, t2, t3, t4⟩ := (key 0 0).2
    exact (fin1 t3 t1 t2 t4).2.2

structure MachOk (P : Program) (m : Mach) : Prop where
  c : CallOk P m.c
  y : YldOk P m.y
  d : DefOk P m.d
theorem mach_ok (hm : P.follows .mixedOrders = true) (ht : TabOk P TT) : ∀ d, MachOk P (mach TT n d)
  | 0 => ⟨fun _ _ _ _ _ _ _ h => (by cases h), fun _ _ _ _ _ _ _ h => (by cases h), fun _ _ _ _ _ _ _ h => (by cases h)⟩
  | d + 1 =>
    have ih := mach_ok hm ht d
    ⟨m_call_ok hm ht ih.c ih.y ih.d, m_yield_ok hm ih.c ih.y, m_defer_ok hm ht ih.c ih.y⟩
end
end Go.Wm
