/- The library's insertion sort over the canonical heap, on a row of ints. -/
import Derived.Test.YtlclbfkdaemilaaSrA
import Derived.Test.YtlclbfkdaemilaaFnA
namespace Go.Proofs.Ytlclbfkdaemilaa
set_option linter.unusedSimpArgs false
set_option linter.unusedVariables false
open Go Go.Vm Go.Proofs So
set_option maxRecDepth 100000
set_option maxHeartbeats 1000000

/-- the comparison says which of two has the greater key -/
structure CmpK (H : Hp) (b : Nat) (t : TypeId) (md : Vm.Mode) (n : Nat) (cmp : VV) (key : Int → Int) (D : Int → Prop) : Prop where
  rng : ∀ x, D x → 0 ≤ key x ∧ key x ≤ 1000000000000
  run : ∃ fc caps, cmp = .fn fc caps ∧ ∀ (g : Nat → Int) x y, D x → D y → FnV Try.prog fc ([.int .i64 x, .int .i64 y] ++ caps) (Ar H b t md n g) fun r H2 => r = .int .i64 (key y - key x) ∧ H2 = Ar H b t md n g

theorem So.Mx.dom {f g : Nat → Int} {a b n : Nat} {D : Int → Prop} (hm : Mx f g a b) (hb : b ≤ n) (hD : ∀ k, k < n → D (f k)) : ∀ k, k < n → D (g k) := by
  intro k hk
  by_cases h : a ≤ k ∧ k < b
  · obtain ⟨j, h1, h2, h3⟩ := hm.1 k h.1 h.2
    rw [h3]; exact hD j (by omega)
  · rw [hm.2.2 k (by omega)]; exact hD k hk
theorem So.Mx.one {f g : Nat → Int} {a : Nat} (hm : Mx f g a (a + 1)) : Mx f g a a := by
  refine ⟨fun i h1 h2 => by omega, fun i h1 h2 => by omega, fun i _ => ?_⟩
  by_cases h : i = a
  · obtain ⟨j, h1, h2, h3⟩ := hm.1 i (by omega) (by omega)
    rw [h3]; congr 1; omega
  · exact hm.2.2 i (by omega)

section
variable {H : Hp} {b n c : Nat} {t : TypeId} {md : Vm.Mode} {f : Nat → Int}

theorem ins53 (hb : b < H.length) (hm : md ≠ .ro) (hn : n ≤ 1000000000000) {x y : Int} {cmp : VV} {key : Int → Int} {D : Int → Prop} (hc : CmpK H b t md n cmp key D) (hx : 0 ≤ x) (hxy : x ≤ y) (hyn : y ≤ n) (hD : ∀ k, k < n → D (f k)) (hI : Inc f x.toNat y.toNat) :
    FnV Try.prog 53 [.sl (some ⟨b, 0, 0⟩) n c, .int .i64 x, .int .i64 y, cmp] (Ar H b t md n f) fun r H' => r = .tup [] ∧ ∃ g, H' = Ar H b t md n g ∧ Srt key g x.toNat y.toNat ∧ Mx f g x.toNat y.toNat := by
  refine FnV.enterRow ok53 (by show 4 ≤ 53; decide) fun B => ?_
  dsimp only [w53]
  have v1 := wrap_id (x := x + 1) (by omega) (by omega)
  refine VW.seq (VW.reg ?_)
  repeat first
    | (apply VOps.rd; (focus (first | exact rfl | (simp [Fr.only, argsF, *]; done))); (focus (exact rfl)))
    | (apply VOps.sk; (focus (simp [Fr.only, argsF, *]; done)))
    | (apply VOps.rd; (focus (first | exact rfl | (simp [Fr.only, argsF, *]; done))); (focus (simp [Fr.only, argsF, *]; first | done | exact rfl)))
  refine VOps.nil ⟨rfl, ?_⟩
  refine VW.block ?_
  refine VW.loop (fun k F' H' => ∃ (i : Int) (g : Nat → Int), x < i ∧ (i ≤ y ∨ i = x + 1) ∧ k = (y + 1 - i).toNat ∧ F' = [(0, .sl (some ⟨b, 0, 0⟩) n c), (1, .int .i64 x), (2, .int .i64 y), (3, cmp), (8, .int .i64 i)] ∧ H' = Ar H b t md n g ∧ Srt key g x.toNat i.toNat ∧ Mx f g x.toNat i.toNat) (y + 1 - (x + 1)).toNat
    ⟨x + 1, f, by omega, by omega, rfl, by simp [Fr.only, argsF, *], rfl, fun i j h1 h2 h3 => by omega, .refl _ _ _⟩ ?_
  rintro k F' H' ⟨i, g, hxi, hiy, rfl, rfl, rfl, hs, hmx⟩
  by_cases hiy2 : i < y
  · refine VW.seq (VW.seq (VW.reg ?_))
    repeat first
      | (apply VOps.rd; (focus (first | exact rfl | (simp [Fr.only, argsF, *]; done))); (focus (exact rfl)))
      | (apply VOps.sk; (focus (simp [Fr.only, argsF, *]; done)))
      | (apply VOps.rd; (focus (first | exact rfl | (simp [Fr.only, argsF, *]; done))); (focus (simp [Fr.only, argsF, *]; first | done | exact rfl)))
    refine VOps.nil ⟨rfl, ?_⟩
    refine VW.condT (by simp [Fr.only, argsF, *]) (VW.skip ?_)
    refine VW.seq (VW.block (VW.seq (VW.reg ?_)))
    repeat first
      | (apply VOps.rd; (focus (first | exact rfl | (simp [Fr.only, argsF, *]; done))); (focus (exact rfl)))
      | (apply VOps.sk; (focus (simp [Fr.only, argsF, *]; done)))
      | (apply VOps.rd; (focus (first | exact rfl | (simp [Fr.only, argsF, *]; done))); (focus (simp [Fr.only, argsF, *]; first | done | exact rfl)))
    refine VOps.nil ⟨rfl, ?_⟩
    refine VW.block ?_
    refine VW.loop (fun k F' H' => ∃ (j : Int), x ≤ j ∧ j ≤ i ∧ k = j.toNat ∧ F' = [(0, .sl (some ⟨b, 0, 0⟩) n c), (1, .int .i64 x), (2, .int .i64 y), (3, cmp), (8, .int .i64 i), (9, .int .i64 j)] ∧ H' = Ar H b t md n (ins g i.toNat j.toNat) ∧ ∀ z, j.toNat ≤ z → z < i.toNat → lt key (g i.toNat) (g z)) i.toNat
      ⟨i, by omega, by omega, rfl, by simp [Fr.only, argsF, *], by rw [ins_same], fun z h1 h2 => by omega⟩ ?_
    rintro k F' H' ⟨j, hxj, hji, rfl, rfl, rfl, hgt⟩
    have hDg := hmx.dom (n := n) (by omega) hD
    -- what comes behind the inner loop
    have leave : (j = x ∨ lt key (g (j.toNat - 1)) (g i.toNat)) → ∃ m, m < (y + 1 - i).toNat ∧ ∃ (i' : Int) (g' : Nat → Int), x < i' ∧ (i' ≤ y ∨ i' = x + 1) ∧ m = (y + 1 - i').toNat ∧ [(0, VV.sl (some ⟨b, 0, 0⟩) n c), (1, .int .i64 x), (2, .int .i64 y), (3, cmp), (8, .int .i64 (i + 1))] = [(0, .sl (some ⟨b, 0, 0⟩) n c), (1, .int .i64 x), (2, .int .i64 y), (3, cmp), (8, .int .i64 i')] ∧ Ar H b t md n (ins g i.toNat j.toNat) = Ar H b t md n g' ∧ Srt key g' x.toNat i'.toNat ∧ Mx f g' x.toNat i'.toNat := by
      intro hl
      refine ⟨(y + 1 - (i + 1)).toNat, by omega, i + 1, _, by omega, by omega, rfl, rfl, rfl, ?_, ?_⟩
      · rw [show (i + 1).toNat = i.toNat + 1 by omega]
        exact ins_sorted hs (by omega) (by omega) hgt (by rcases hl with rfl | hl; exact .inl rfl; exact .inr hl)
      · exact (hmx.widen (Nat.le_refl _) (by omega)).trans (mx_ins (by omega) (by omega) (by omega))
    have v2 := wrap_id (x := i + 1) (by omega) (by omega)
    by_cases hjx : x < j
    · obtain ⟨u, hu, hu0, hun, hux⟩ : ∃ u, IntKind.i64.wrap (j - 1) = u ∧ 0 ≤ u ∧ u < n ∧ Hid (u = j - 1) := ⟨j - 1, wrap_id (by omega) (by omega), by omega, by omega, rfl⟩
      have hj0 : 0 ≤ j := by omega
      have hjn : j < n := by omega
      have e1 := Ar.ixp (t := t) (md := md) (f := ins g i.toNat j.toNat) hb (k := j.toNat) (n := n) (by omega)
      have e2 := Ar.ixp (t := t) (md := md) (f := ins g i.toNat j.toNat) hb (k := u.toNat) (n := n) (by have := hux.out; omega)
      have d1 := Ar.ld (t := t) (md := md) (f := ins g i.toNat j.toNat) hb (k := j.toNat) (n := n) (by omega)
      have d2 := Ar.ld (t := t) (md := md) (f := ins g i.toNat j.toNat) hb (k := u.toNat) (n := n) (by omega)
      have f1 : ins g i.toNat j.toNat j.toNat = g i.toNat := by unfold ins; rw [if_pos rfl]
      have f2 : ins g i.toNat j.toNat u.toNat = g u.toNat := by have := hux.out; unfold ins; rw [if_neg (by omega), if_neg (by omega)]
      obtain ⟨fc, caps, rfl, hcall⟩ := hc.run
      have hcall := hcall (ins g i.toNat j.toNat) (g i.toNat) (g u.toNat) (hDg _ (by omega)) (hDg _ (by omega))
      obtain ⟨r1, r2⟩ := hc.rng (g i.toNat) (hDg _ (by omega))
      obtain ⟨r3, r4⟩ := hc.rng (g u.toNat) (hDg _ (by omega))
      refine VW.seq (VW.seq ?_)
      refine VW.mono (Q := fun e F2 Hx => e = .normal ∧ F2 = [(0, .sl (some ⟨b, 0, 0⟩) n c), (1, .int .i64 x), (2, .int .i64 y), (3, .fn fc caps), (8, .int .i64 i), (9, .int .i64 j), (34, .bool (decide (key (g u.toNat) - key (g i.toNat) < 0)))] ∧ Hx = Ar H b t md n (ins g i.toNat j.toNat)) ?_ ?_
      · clear leave hgt hmx hs hI hD
        rw [f1] at d1
        rw [f2] at d2
        refine VW.dreg [Ar H b t md n (ins g i.toNat j.toNat)] mixed rfl ?_
        repeat first
          | (apply VX.rd1; (focus (first | exact rfl | (simp [Fr.only, argsF, *]; done))); (focus (exact rfl)))
          | (apply VX.sk1; (focus (simp [Fr.only, argsF, *]; done)))
          | (apply VX.rd1; (focus (first | exact rfl | (simp [Fr.only, argsF, *]; done))); (focus (simp [Fr.only, argsF, *]; first | done | exact rfl)))
        refine VX.call1 (by simp [*]) rfl rfl hcall ?_
        repeat first
          | (apply VX.rd1; (focus (first | exact rfl | (simp [Fr.only, argsF, *]; done))); (focus (exact rfl)))
          | (apply VX.sk1; (focus (simp [Fr.only, argsF, *]; done)))
          | (apply VX.rd1; (focus (first | exact rfl | (simp [Fr.only, argsF, *]; done))); (focus (simp [Fr.only, argsF, *]; first | done | exact rfl)))
        exact VX.nil ⟨rfl, rfl, rfl⟩
      rintro e F2 Hx ⟨rfl, rfl, rfl⟩
      refine VW.cond rfl (fun a => ?_) (fun a => ?_)
      · have a := of_decide_eq_true a
        refine VW.skip ?_
        obtain ⟨s1, s2⟩ := Ar.swp2 (t := t) (f := ins g i.toNat j.toNat) hb hm (i := j.toNat) (j := u.toNat) (n := n) (by omega) (by omega)
        have e3 := Ar.ixp (t := t) (md := md) (f := fun z => if z = j.toNat then ins g i.toNat j.toNat u.toNat else ins g i.toNat j.toNat z) hb (k := u.toNat) (n := n) (by omega)
        have hfin : Hid (Ar H b t md n (swp (ins g i.toNat j.toNat) j.toNat u.toNat) = Ar H b t md n (ins g i.toNat (j - 1).toNat)) := by
          have := hux.out
          unfold Hid
          rw [show j.toNat = (j - 1).toNat + 1 by omega, show u.toNat = (j - 1).toNat by omega, ins_step (by omega)]
        have hfin2 : Hid (∀ z, (j - 1).toNat ≤ z → z < i.toNat → lt key (g i.toNat) (g z)) := by
          intro z h1 h2
          have := hux.out
          by_cases hz : z = u.toNat
          · rw [hz]; exact .inl (by omega)
          · exact hgt z (by omega) h2
        clear leave hgt hmx hs hI hD hcall hxi hxj hDg hxy
        generalize Ar H b t md n (fun z => if z = j.toNat then ins g i.toNat j.toNat u.toNat else ins g i.toNat j.toNat z) = G1 at *
        generalize Ar H b t md n (swp (ins g i.toNat j.toNat) j.toNat u.toNat) = G2 at *
        generalize Ar H b t md n (ins g i.toNat j.toNat) = G0 at *
        clear f1 f2 r1 r2 r3 r4
        refine VW.seq (VW.block ?_)
        refine VW.dreg [G0, G1, G2] mixed rfl ?_
        repeat first
          | (apply VX.rdp; (focus (first | exact rfl | (simp [Fr.only, argsF, *]; done))); (focus (exact fun _ => rfl)))
          | (apply VX.sk1; (focus (simp [Fr.only, argsF, *]; done)))
          | (apply VX.skc; (focus (simp [Fr.only, argsF, *]; done)))
          | (apply VX.rdp; (focus (first | exact rfl | (simp [Fr.only, argsF, *]; done))); (focus (intro _; simp [Fr.only, argsF, *]; first | done | exact rfl)))
          | (apply VX.rda; (focus (first | exact rfl | (simp [Fr.only, argsF, *]; done))); (focus (exact rfl)); (focus (exact rfl)); (focus (simp [Fr.only, argsF, *]; first | done | exact rfl)))
          | (apply VX.rdb; (focus (first | exact rfl | (simp [Fr.only, argsF, *]; done))); (focus (exact rfl)); (focus (exact rfl)); (focus (exact rfl)); (focus (simp [Fr.only, argsF, *]; first | done | exact rfl)); (focus (simp [Fr.only, argsF, *]; first | done | exact rfl)))
          | (apply VX.ef1; (focus (first | exact rfl | (simp [Fr.only, argsF, *]; done))); (focus (exact rfl)); (focus (simp [Fr.only, argsF, *]; first | done | exact rfl | exact ⟨rfl, rfl⟩)))
        refine VX.nil ?_
        show VW _ _ _ _ [(0, .sl (some ⟨b, 0, 0⟩) n c), (1, .int .i64 x), (2, .int .i64 y), (3, .fn fc caps), (8, .int .i64 i), (9, .int .i64 j)] _ _
        refine VW.reg ?_
        refine VOps.rd rfl rfl ?_
        refine VOps.rd rfl rfl ?_
        refine VOps.rd rfl rfl ?_
        have := hux.out
        refine VOps.nil ⟨rfl, (j - 1).toNat, by omega, j - 1, by omega, by omega, rfl, ?_, hfin, hfin2⟩
        simp [Fr.only, hu, this]
      · have a := of_decide_eq_false a
        refine VW.exit ?_
        simp only [then_normal, then_ret, then_exit, inB_normal, inB_ret, inB_exit, reduceIte, Nat.reduceEqDiff]
        refine VW.reg ?_
        repeat first
          | (apply VOps.rd; (focus (first | exact rfl | (simp [Fr.only, argsF, *]; done))); (focus (exact rfl)))
          | (apply VOps.sk; (focus (simp [Fr.only, argsF, *]; done)))
          | (apply VOps.rd; (focus (first | exact rfl | (simp [Fr.only, argsF, *]; done))); (focus (simp [Fr.only, argsF, *]; first | done | exact rfl)))
        refine VOps.nil ⟨rfl, ?_⟩
        have hl := leave (.inr (by
          have := hux.out
          rw [show j.toNat - 1 = u.toNat by omega]
          obtain ⟨k', q1, q2, q3⟩ := hmx.1 u.toNat (by omega) (by omega)
          have q4 := hmx.2.2 i.toNat (by omega)
          have := hI k' i.toNat q1 (by omega) (by omega)
          rw [← q3, ← q4] at this
          unfold lt
          omega))
        simpa [Fr.only, v2] using hl
    · have hjx' : j = x := by omega
      subst hjx'
      have hl := leave (.inl rfl)
      clear leave hgt hmx hs hI hD
      refine VW.seq (VW.seq ?_)
      refine VW.mono (Q := fun e F2 Hx => e = .normal ∧ F2 = [(0, .sl (some ⟨b, 0, 0⟩) n c), (1, .int .i64 j), (2, .int .i64 y), (3, cmp), (8, .int .i64 i), (9, .int .i64 j), (34, .bool false)] ∧ Hx = Ar H b t md n (ins g i.toNat j.toNat)) ?_ ?_
      · refine VW.dreg [Ar H b t md n (ins g i.toNat j.toNat)] mixed rfl ?_
        repeat first
          | (apply VX.rdp; (focus (first | exact rfl | (simp [Fr.only, argsF, *]; done))); (focus (exact fun _ => rfl)))
          | (apply VX.sk1; (focus (simp [Fr.only, argsF, *]; done)))
          | (apply VX.skc; (focus (simp [Fr.only, argsF, *]; done)))
          | (apply VX.rdp; (focus (first | exact rfl | (simp [Fr.only, argsF, *]; done))); (focus (intro _; simp [Fr.only, argsF, *]; first | done | exact rfl)))
          | (apply VX.rda; (focus (first | exact rfl | (simp [Fr.only, argsF, *]; done))); (focus (exact rfl)); (focus (exact rfl)); (focus (simp [Fr.only, argsF, *]; first | done | exact rfl)))
          | (apply VX.rdb; (focus (first | exact rfl | (simp [Fr.only, argsF, *]; done))); (focus (exact rfl)); (focus (exact rfl)); (focus (exact rfl)); (focus (simp [Fr.only, argsF, *]; first | done | exact rfl)); (focus (simp [Fr.only, argsF, *]; first | done | exact rfl)))
          | (apply VX.ef1; (focus (first | exact rfl | (simp [Fr.only, argsF, *]; done))); (focus (exact rfl)); (focus (simp [Fr.only, argsF, *]; first | done | exact rfl | exact ⟨rfl, rfl⟩)))
        exact VX.nil ⟨rfl, by simp [Fr.only], rfl⟩
      rintro e F2 Hx ⟨rfl, rfl, rfl⟩
      refine VW.condF rfl (VW.exit ?_)
      simp only [then_normal, then_ret, then_exit, inB_normal, inB_ret, inB_exit, reduceIte, Nat.reduceEqDiff]
      refine VW.reg ?_
      repeat first
        | (apply VOps.rd; (focus (first | exact rfl | (simp [Fr.only, argsF, *]; done))); (focus (exact rfl)))
        | (apply VOps.sk; (focus (simp [Fr.only, argsF, *]; done)))
        | (apply VOps.rd; (focus (first | exact rfl | (simp [Fr.only, argsF, *]; done))); (focus (simp [Fr.only, argsF, *]; first | done | exact rfl)))
      refine VOps.nil ⟨rfl, ?_⟩
      simpa [Fr.only, v2] using hl
  · refine VW.seq (VW.seq (VW.reg ?_))
    repeat first
      | (apply VOps.rd; (focus (first | exact rfl | (simp [Fr.only, argsF, *]; done))); (focus (exact rfl)))
      | (apply VOps.sk; (focus (simp [Fr.only, argsF, *]; done)))
      | (apply VOps.rd; (focus (first | exact rfl | (simp [Fr.only, argsF, *]; done))); (focus (simp [Fr.only, argsF, *]; first | done | exact rfl)))
    refine VOps.nil ⟨rfl, ?_⟩
    refine VW.condF (by simp [Fr.only, *]) (VW.exit ?_)
    simp only [then_normal, then_ret, then_exit, inB_normal, inB_ret, inB_exit, reduceIte, Nat.reduceEqDiff]
    refine ⟨by simp, _, rfl, rfl, g, rfl, ?_⟩
    by_cases hy : i = y
    · subst hy; exact ⟨hs, hmx⟩
    · have : y = x := by omega
      subst this
      have : i = y + 1 := by omega
      subst this
      exact ⟨fun i j h1 h2 h3 => by omega, So.Mx.one (by rw [show (y + 1).toNat = y.toNat + 1 by omega] at hmx; exact hmx)⟩
end
end Go.Proofs.Ytlclbfkdaemilaa
