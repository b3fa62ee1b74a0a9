/- The library's stable sort over the canonical heap, on a row of ints: the row comes out in order. -/
import Derived.Test.YtlclbfkdaemilaaSrC
namespace Go.Proofs.Ytlclbfkdaemilaa
set_option linter.unusedSimpArgs false
set_option linter.unusedVariables false
open Go Go.Vm Go.Proofs So
set_option maxRecDepth 100000
set_option maxHeartbeats 2000000

section
variable {H : Hp} {b n c : Nat} {t : TypeId} {md : Vm.Mode} {f : Nat → Int}

theorem stable46 (hb : b < H.length) (hm : md ≠ .ro) (hn : n ≤ 256) {cmp : VV} {key : Int → Int} {D : Int → Prop} (hc : CmpK H b t md n cmp key D) (hD : ∀ k, k < n → D (f k)) (hI : Inc f 0 n) :
    FnV Try.prog 46 [.sl (some ⟨b, 0, 0⟩) n c, .int .i64 n, cmp] (Ar H b t md n f) fun r H' => r = .tup [] ∧ ∃ g, H' = Ar H b t md n g ∧ Srt key g 0 n ∧ Mx f g 0 n := by
  refine FnV.enterRow ok46 (by show 3 ≤ 63; decide) fun B => ?_
  dsimp only [w46]
  refine VW.seq (VW.reg ?_)
  repeat first
    | (apply VOps.rd; (focus (first | exact rfl | (simp [Fr.only, argsF, *]; done))); (focus (exact rfl)))
    | (apply VOps.sk; (focus (simp [Fr.only, argsF, *]; done)))
    | (apply VOps.rd; (focus (first | exact rfl | (simp [Fr.only, argsF, *]; done))); (focus (simp [Fr.only, argsF, *]; first | done | exact rfl)))
  refine VOps.nil ⟨rfl, ?_⟩
  refine VW.seq (VW.reg ?_)
  repeat first
    | (apply VOps.rd; (focus (first | exact rfl | (simp [Fr.only, argsF, *]; done))); (focus (exact rfl)))
    | (apply VOps.sk; (focus (simp [Fr.only, argsF, *]; done)))
    | (apply VOps.rd; (focus (first | exact rfl | (simp [Fr.only, argsF, *]; done))); (focus (simp [Fr.only, argsF, *]; first | done | exact rfl)))
  refine VOps.nil ⟨rfl, ?_⟩
  show VW _ _ _ _ [(0, .sl (some ⟨b, 0, 0⟩) n c), (1, .int .i64 n), (2, cmp), (6, .int .i64 20), (7, .int .i64 0), (8, .int .i64 20)] _ _
  have hn1 : n ≤ 1000000000000 := by omega
  refine VW.seq ?_
  refine VW.mono (Q := fun ex F2 Hx => ex = .normal ∧ ∃ (A q : Nat) (g : Nat → Int), Hid (A = 20 * q) ∧ A ≤ n ∧ n < A + 20 ∧ Cov [(0, .sl (some ⟨b, 0, 0⟩) n c), (1, .int .i64 n), (2, cmp), (6, .int .i64 20), (7, .int .i64 A)] F2 ∧ Hx = Ar H b t md n g ∧
      SepB (· / 20) g n ∧ SrtB key (· / 20) g A ∧ (∀ k, A ≤ k → g k = f k) ∧ Mx f g 0 n) ?_ ?_
  · refine VW.block ?_
    refine VW.loop (fun k F' H' => ∃ (A q : Nat) (g : Nat → Int), Hid (A = 20 * q) ∧ A ≤ n ∧ k = n - A ∧ F' = [(0, .sl (some ⟨b, 0, 0⟩) n c), (1, .int .i64 n), (2, cmp), (6, .int .i64 20), (7, .int .i64 A), (8, .int .i64 (A + 20))] ∧ H' = Ar H b t md n g ∧
      SepB (· / 20) g n ∧ SrtB key (· / 20) g A ∧ (∀ k, A ≤ k → g k = f k) ∧ Mx f g 0 n) n
      ⟨0, 0, f, rfl, by omega, rfl, rfl, rfl, fun i j h1 h2 h3 => hI i j (by omega) h1 h2, fun i j h1 h2 => by omega, fun _ _ => rfl, .refl _ _ _⟩ ?_
    rintro k F' H' ⟨A, q, g, hA, hAn, rfl, rfl, rfl, k1, k2, k3, k4⟩
    by_cases hle : (A : Int) + 20 ≤ n
    · refine VW.seq (VW.seq (VW.reg ?_))
      repeat first
        | (apply VOps.rd; (focus (first | exact rfl | (simp [Fr.only, argsF, *]; done))); (focus (exact rfl)))
        | (apply VOps.sk; (focus (simp [Fr.only, argsF, *]; done)))
        | (apply VOps.rd; (focus (first | exact rfl | (simp [Fr.only, argsF, *]; done))); (focus (simp [Fr.only, argsF, *]; first | done | exact rfl)))
      refine VOps.nil ⟨rfl, ?_⟩
      refine VW.condT (by simp [Fr.only, argsF, *]) (VW.skip ?_)
      have hDg := k4.dom (Nat.le_refl _) hD
      have e1 : ((A : Int) + 20).toNat = A + 20 := by omega
      have e2 : (A : Int).toNat = A := by omega
      have v1 := wrap_id (x := (A : Int) + 20 + 20) (by omega) (by omega)
      have hIg : Inc g (A : Int).toNat ((A : Int) + 20).toNat := fun i j h1 h2 h3 => by
        rw [k3 i (by omega), k3 j (by omega)]; exact hI i j (by omega) h2 (by omega)
      have hcall := ins53 (t := t) (f := g) (c := c) (x := (A : Int)) (y := (A : Int) + 20) hb hm hn1 hc (by omega) (by omega) hle hDg hIg
      refine VW.block (VW.seq (VW.reg ?_))
      repeat refine VOps.rd rfl rfl ?_
      refine VOps.call rfl rfl rfl (hcall.mono ?_)
      rintro r H2 ⟨rfl, g1, rfl, w1, w2⟩
      rw [e1, e2] at w1 w2
      have hAq := hA.out
      obtain ⟨u1, u2⟩ := first_run (q := q) (b := A + 20) (by omega) (by omega) (by omega) (by omega) k1 (hAq ▸ k2) (by rw [← hAq]; exact w2) (by rw [← hAq]; exact w1)
      refine VOps.nil ⟨rfl, ?_⟩
      refine VW.seq (VW.reg ?_)
      repeat refine VOps.rd rfl rfl ?_
      refine VOps.nil ⟨rfl, ?_⟩
      refine VW.reg ?_
      repeat refine VOps.rd rfl rfl ?_
      refine VOps.nil ⟨rfl, n - (A + 20), by omega, A + 20, q + 1, g1, by unfold Hid; omega, by omega, rfl, ?_, rfl, u1, u2, ?_, k4.trans (w2.widen (by omega) (by omega))⟩
      · simp [Fr.only, v1]
      · intro k hk
        rw [w2.2.2 k (by omega)]; exact k3 k (by omega)
    · refine VW.seq (VW.seq (VW.reg ?_))
      repeat first
        | (apply VOps.rd; (focus (first | exact rfl | (simp [Fr.only, argsF, *]; done))); (focus (exact rfl)))
        | (apply VOps.sk; (focus (simp [Fr.only, argsF, *]; done)))
        | (apply VOps.rd; (focus (first | exact rfl | (simp [Fr.only, argsF, *]; done))); (focus (simp [Fr.only, argsF, *]; first | done | exact rfl)))
      refine VOps.nil ⟨rfl, ?_⟩
      refine VW.condF (by simp [Fr.only, argsF, *]) (VW.exit ?_)
      simp only [then_normal, then_ret, then_exit, inB_normal, inB_ret, inB_exit, reduceIte, Nat.reduceEqDiff]
      exact ⟨trivial, A, q, g, hA, hAn, by omega, by simp [Cov, Fr.only], rfl, k1, k2, k3, k4⟩
  rintro ex F2 Hx ⟨rfl, A, q, g, hA, hAn, hnA, hcov, rfl, k1, k2, k3, k4⟩
  refine VW.sub hcov ?_
  clear hcov
  -- the rest of the first round
  have hDg := k4.dom (Nat.le_refl _) hD
  have e2 : (A : Int).toNat = A := by omega
  have e3 : (n : Int).toNat = n := by omega
  have hIg : Inc g (A : Int).toNat (n : Int).toNat := fun i j h1 h2 h3 => by
    rw [k3 i (by omega), k3 j (by omega)]; exact hI i j (by omega) h2 (by omega)
  have hcall := ins53 (t := t) (f := g) (c := c) (x := (A : Int)) (y := (n : Int)) hb hm hn1 hc (by omega) (by omega) (by omega) hDg hIg
  refine VW.seq (VW.reg ?_)
  repeat refine VOps.rd rfl rfl ?_
  refine VOps.call rfl rfl rfl (hcall.mono ?_)
  rintro r H2 ⟨rfl, g1, rfl, w1, w2⟩
  rw [e2, e3] at w1 w2
  refine VOps.nil ⟨rfl, ?_⟩
  show VW _ _ _ _ [(0, .sl (some ⟨b, 0, 0⟩) n c), (1, .int .i64 n), (2, cmp), (6, .int .i64 20)] _ _
  have hr : SepB (· / 20) g1 n ∧ SrtB key (· / 20) g1 n := by
    have hAq := hA.out
    by_cases hz : A = n
    · subst hz
      have : g1 = g := funext fun k => w2.2.2 k (by omega)
      rw [this]; exact ⟨k1, k2⟩
    · exact first_run (q := q) (b := n) (by omega) (by omega) (by omega) (by omega) k1 (hAq ▸ k2) (by rw [← hAq]; exact w2) (by rw [← hAq]; exact w1)
  have hm1 : Mx f g1 0 n := k4.trans (w2.widen (by omega) (Nat.le_refl _))
  clear hcall hIg hDg k1 k2 k3 k4 w1 w2 hA e2
  refine VW.block ?_
  refine VW.loop (fun k F' H' => ∃ (s : Nat) (g : Nat → Int), (s = 20 ∨ s = 40 ∨ s = 80 ∨ s = 160 ∨ s = 320) ∧ k = 640 - s ∧ F' = [(0, .sl (some ⟨b, 0, 0⟩) n c), (1, .int .i64 n), (2, cmp), (6, .int .i64 s)] ∧ H' = Ar H b t md n g ∧
      SepB (· / s) g n ∧ SrtB key (· / s) g n ∧ Mx f g 0 n) 620
      ⟨20, g1, .inl rfl, rfl, rfl, rfl, hr.1, hr.2, hm1⟩ ?_
  clear hr hm1
  rintro k F' H' ⟨s, g, hs, rfl, rfl, rfl, k1, k2, k4⟩
  by_cases hsn : (s : Int) < n
  · obtain ⟨d, hd, hsd⟩ : ∃ d : Nat, Hid (d = 2 * s) ∧ ((s = 20 ∧ d = 40) ∨ (s = 40 ∧ d = 80) ∨ (s = 80 ∧ d = 160) ∨ (s = 160 ∧ d = 320)) := ⟨2 * s, rfl, by omega⟩
    have hd1 := hd.out
    have v1 : IntKind.i64.wrap (2 * (s : Int)) = d := by rw [wrap_id (by omega) (by omega)]; omega
    have v2 : IntKind.i64.wrap ((s : Int) * 2) = d := by rw [wrap_id (by omega) (by omega)]; omega
    clear hs
    refine VW.seq (VW.seq (VW.reg ?_))
    repeat refine VOps.rd rfl rfl ?_
    refine VOps.nil ⟨rfl, ?_⟩
    refine VW.condT (by simp [Fr.only, hsn]) (VW.skip ?_)
    refine VW.block (VW.seq (VW.reg ?_))
    repeat refine VOps.rd rfl rfl ?_
    refine VOps.nil ⟨rfl, ?_⟩
    rw [v1]
    show VW _ _ _ _ [(0, .sl (some ⟨b, 0, 0⟩) n c), (1, .int .i64 n), (2, cmp), (6, .int .i64 s), (7, .int .i64 0), (8, .int .i64 d)] _ _
    refine VW.seq ?_
    refine VW.mono (Q := fun ex F2 Hx => ex = .normal ∧ ∃ (A q : Nat) (g : Nat → Int), A = d * q ∧ A ≤ n ∧ n < A + d ∧ Cov [(0, .sl (some ⟨b, 0, 0⟩) n c), (1, .int .i64 n), (2, cmp), (6, .int .i64 s), (7, .int .i64 A)] F2 ∧ Hx = Ar H b t md n g ∧
      SepB (bet s d A) g n ∧ SrtB key (bet s d A) g n ∧ Mx f g 0 n) ?_ ?_
    · refine VW.block ?_
      refine VW.loop (fun k F' H' => ∃ (A q : Nat) (g : Nat → Int), A = d * q ∧ A ≤ n ∧ k = n - A ∧ F' = [(0, .sl (some ⟨b, 0, 0⟩) n c), (1, .int .i64 n), (2, cmp), (6, .int .i64 s), (7, .int .i64 A), (8, .int .i64 (A + d))] ∧ H' = Ar H b t md n g ∧
        SepB (bet s d A) g n ∧ SrtB key (bet s d A) g n ∧ Mx f g 0 n) n
        ⟨0, 0, g, rfl, by omega, rfl, by simp, rfl, by rw [bet_zero]; exact k1, by rw [bet_zero]; exact k2, k4⟩ ?_
      rintro k F' H' ⟨A, q, g, hA, hAn, rfl, rfl, rfl, k1, k2, k4⟩
      by_cases hle : (A : Int) + d ≤ n
      · have hDg := k4.dom (Nat.le_refl _) hD
        have e1 : ((A : Int) + d).toNat = A + d := by omega
        have e2 : (A : Int).toNat = A := by omega
        have e3 : ((A : Int) + s).toNat = A + s := by omega
        have v3 := wrap_id (x := (A : Int) + d + d) (by omega) (by omega)
        have v4 := wrap_id (x := (A : Int) + s) (by omega) (by omega)
        have mr := fun g2 => merge_run (key := key) (f := g) (g := g2) (n := n) (b := A + d) (q := q) hsd (by omega) (by omega) (by omega) (by omega) (hA ▸ k1) (hA ▸ k2)
        rw [← hA] at mr
        obtain ⟨z1, z2, z3, _⟩ := mr g
        have hcall := sym54 (t := t) (c := c) hb hm hn1 hc d (f := g) (x := (A : Int)) (m := (A : Int) + s) (y := (A : Int) + d) (by omega) (by omega) (by omega) (by omega) hle hDg (by rw [e2, e3]; exact z1) (by rw [e1, e3]; exact z2) (by rw [e1, e2, e3]; exact z3)
        rw [e1, e2] at hcall
        refine VW.seq (VW.seq (VW.reg ?_))
        repeat refine VOps.rd rfl rfl ?_
        refine VOps.nil ⟨rfl, ?_⟩
        refine VW.condT (by simp [Fr.only, hle]) (VW.skip ?_)
        refine VW.block (VW.seq (VW.reg ?_))
        repeat refine VOps.rd rfl rfl ?_
        refine VOps.call rfl rfl rfl ?_
        rw [v4]
        refine hcall.mono ?_
        rintro r H2 ⟨rfl, g2, rfl, w1, w2⟩
        obtain ⟨u1, u2⟩ := (mr g2).2.2.2 w2 w1
        refine VOps.nil ⟨rfl, ?_⟩
        refine VW.seq (VW.reg ?_)
        repeat refine VOps.rd rfl rfl ?_
        refine VOps.nil ⟨rfl, ?_⟩
        refine VW.reg ?_
        repeat refine VOps.rd rfl rfl ?_
        refine VOps.nil ⟨rfl, n - (A + d), by omega, A + d, q + 1, g2, by rw [Nat.mul_add]; omega, by omega, rfl, ?_, rfl, u1, u2, k4.trans (w2.widen (by omega) (by omega))⟩
        simp [Fr.only, v1, v3]
      · refine VW.seq (VW.seq (VW.reg ?_))
        repeat refine VOps.rd rfl rfl ?_
        refine VOps.nil ⟨rfl, ?_⟩
        refine VW.condF (by simp [Fr.only, hle]) (VW.exit ?_)
        simp only [then_normal, then_ret, then_exit, inB_normal, inB_ret, inB_exit, reduceIte, Nat.reduceEqDiff]
        exact ⟨trivial, A, q, g, hA, hAn, by omega, by simp [Cov, Fr.only], rfl, k1, k2, k4⟩
    rintro ex F2 Hx ⟨rfl, A, q, g, hA, hAn, hnA, hcov, rfl, k1, k2, k4⟩
    refine VW.sub hcov ?_
    clear hcov
    have v4 := wrap_id (x := (A : Int) + s) (by omega) (by omega)
    have e2 : (A : Int).toNat = A := by omega
    have e4 : ((A : Int) + s).toNat = A + s := by omega
    have hDg := k4.dom (Nat.le_refl _) hD
    refine VW.seq (VW.seq (VW.reg ?_))
    repeat refine VOps.rd rfl rfl ?_
    refine VOps.nil ⟨rfl, ?_⟩
    rw [v4]
    refine VW.seq (VW.reg ?_)
    repeat refine VOps.rd rfl rfl ?_
    refine VOps.nil ⟨rfl, ?_⟩
    refine VW.mono (Q := fun ex F2 Hx => ex = .normal ∧ Cov [(0, .sl (some ⟨b, 0, 0⟩) n c), (1, .int .i64 n), (2, cmp), (6, .int .i64 s)] F2 ∧ ∃ g2, Hx = Ar H b t md n g2 ∧ SepB (· / d) g2 n ∧ SrtB key (· / d) g2 n ∧ Mx f g2 0 n) ?_ ?_
    · refine VW.cond rfl (fun a => ?_) (fun a => ?_)
      · have a := of_decide_eq_true a
        have mr := fun g2 => merge_run (key := key) (f := g) (g := g2) (n := n) (b := n) (q := q) hsd (by omega) (by omega) (by omega) (by omega) (hA ▸ k1) (hA ▸ k2)
        rw [← hA] at mr
        obtain ⟨z1, z2, z3, _⟩ := mr g
        have hcall := sym54 (t := t) (c := c) hb hm hn1 hc n (f := g) (x := (A : Int)) (m := (A : Int) + s) (y := (n : Int)) (by omega) (by omega) (by omega) (by omega) (by omega) hDg (by rw [e2, e4]; exact z1) (by rw [e3, e4]; exact z2) (by rw [e2, e3, e4]; exact z3)
        rw [e2, e3] at hcall
        refine VW.reg ?_
        repeat refine VOps.rd rfl rfl ?_
        refine VOps.call rfl rfl rfl (hcall.mono ?_)
        rintro r H2 ⟨rfl, g2, rfl, w1, w2⟩
        obtain ⟨u1, u2⟩ := (mr g2).2.2.2 w2 w1
        obtain ⟨y1, y2⟩ := bet_done (a := n) (q := q + 1) hsd (by rw [Nat.mul_add]; omega) (.inr (Nat.le_refl _)) u1 u2
        exact VOps.nil ⟨rfl, rfl, by simp [Cov, Fr.only], g2, rfl, y1, y2, k4.trans (w2.widen (by omega) (by omega))⟩
      · have a := of_decide_eq_false a
        obtain ⟨y1, y2⟩ := bet_done (a := A) (q := q) hsd (by omega) (.inl hA) k1 k2
        exact VW.skip ⟨rfl, by simp [Cov, Fr.only], g, rfl, y1, y2, k4⟩
    rintro ex F2 Hx ⟨rfl, hcov, g2, rfl, y1, y2, y3⟩
    refine VW.sub hcov ?_
    refine VW.reg ?_
    repeat refine VOps.rd rfl rfl ?_
    refine VOps.nil ⟨rfl, 640 - d, by omega, d, g2, by omega, rfl, ?_, rfl, y1, y2, y3⟩
    simp [Fr.only, v2]
  · refine VW.seq (VW.seq (VW.reg ?_))
    repeat refine VOps.rd rfl rfl ?_
    refine VOps.nil ⟨rfl, ?_⟩
    refine VW.condF (by simp [Fr.only, hsn]) (VW.exit ?_)
    simp only [then_normal, then_ret, then_exit, inB_normal, inB_ret, inB_exit, reduceIte, Nat.reduceEqDiff]
    refine ⟨by simp, _, rfl, rfl, g, rfl, fun i j h1 h2 h3 => k2 i j h2 h3 ?_, k4⟩
    show i / s = j / s
    rw [Nat.div_eq_of_lt (by omega), Nat.div_eq_of_lt (by omega)]

theorem sort31 (hb : b < H.length) (hm : md ≠ .ro) (hn : n ≤ 256) {cmp : VV} {key : Int → Int} {D : Int → Prop} (hc : CmpK H b t md n cmp key D) (hD : ∀ k, k < n → D (f k)) (hI : Inc f 0 n) :
    FnV Try.prog 31 [.sl (some ⟨b, 0, 0⟩) n c, cmp] (Ar H b t md n f) fun r H' => r = .tup [] ∧ ∃ g, H' = Ar H b t md n g ∧ Srt key g 0 n ∧ Mx f g 0 n := by
  refine FnV.enterRow ok31 (by show 2 ≤ 9; decide) fun B => ?_
  dsimp only [w31]
  refine VW.reg ?_
  repeat refine VOps.rd rfl rfl ?_
  refine VOps.call rfl rfl rfl ((stable46 (c := c) hb hm hn hc hD hI).mono ?_)
  rintro r H2 ⟨rfl, g, rfl, w1, w2⟩
  exact VOps.nil ⟨rfl, by simp, _, rfl, rfl, g, rfl, w1, w2⟩
end
end Go.Proofs.Ytlclbfkdaemilaa
