/- The parts of the library's stable sort over the canonical heap, on a row of ints: exchange of ranges, rotation. -/
import Derived.Test.YtlclbfkdaemilaaVmQ
import Derived.Test.YtlclbfkdaemilaaFnA
import Derived.Test.YtlclbfkdaemilaaFnE
import Derived.Test.YtlclbfkdaemilaaAt
import Derived.Test.YtlclbfkdaemilaaSo
namespace Go.Proofs.Ytlclbfkdaemilaa
set_option linter.unusedSimpArgs false
set_option linter.unusedVariables false
open Go Go.Vm Go.Proofs So
set_option maxRecDepth 100000
set_option maxHeartbeats 1000000

section
variable {H : Hp} {b n c : Nat} {t : TypeId} {md : Vm.Mode} {f : Nat → Int}

/-- two stores: an exchange -/
theorem Ar.swp2 (hb : b < H.length) (hm : md ≠ .ro) {i j : Nat} (hi : i < n) (hj : j < n) :
    stc (Ar H b t md n f) ⟨b, i, 0⟩ [.int .i64 (f j)] = some (Ar H b t md n fun x => if x = i then f j else f x) ∧
    stc (Ar H b t md n fun x => if x = i then f j else f x) ⟨b, j, 0⟩ [.int .i64 (f i)] = some (Ar H b t md n (swp f i j)) := by
  refine ⟨Ar.stc hb hm hi _, ?_⟩
  rw [Ar.stc hb hm hj]
  congr 2
  funext x
  unfold swp
  by_cases h1 : x = j
  · by_cases h2 : x = i
    · simp [h1, ← h2]
    · have : j ≠ i := by omega
      simp [h1, this]
  · simp [h1]

theorem swp61 (hb : b < H.length) (hm : md ≠ .ro) (hn : n ≤ 1000000000000) {x y k : Int} {cmp : VV} (hx : 0 ≤ x) (hy : 0 ≤ y) (hk : 0 ≤ k) (hxy : x + k ≤ y ∨ y + k ≤ x) (hxn : x + k ≤ n) (hyn : y + k ≤ n) :
    FnV Try.prog 61 [.sl (some ⟨b, 0, 0⟩) n c, .int .i64 x, .int .i64 y, .int .i64 k, cmp] (Ar H b t md n f) fun r H' => r = .tup [] ∧ H' = Ar H b t md n (swr f x.toNat y.toNat k.toNat) := by
  refine FnV.enterRow ok61 (by show 5 ≤ 38; decide) fun B => ?_
  dsimp only [w61]
  refine VW.seq (VW.reg ?_)
  repeat first
    | (apply VOps.rd; (focus (first | exact rfl | (simp [Fr.only, argsF, *]; done))); (focus (exact rfl)))
    | (apply VOps.sk; (focus (simp [Fr.only, argsF, *]; done)))
    | (apply VOps.rd; (focus (first | exact rfl | (simp [Fr.only, argsF, *]; done))); (focus (simp [Fr.only, argsF, *]; first | done | exact rfl)))
  refine VOps.nil ⟨rfl, ?_⟩
  show VW _ _ _ _ [(0, .sl (some ⟨b, 0, 0⟩) n c), (1, .int .i64 x), (2, .int .i64 y), (3, .int .i64 k), (10, .int .i64 0)] _ _
  refine VW.block ?_
  refine VW.loop (fun m F' H' => ∃ i : Int, 0 ≤ i ∧ i ≤ k ∧ m = (k - i).toNat ∧ F' = [(0, .sl (some ⟨b, 0, 0⟩) n c), (1, .int .i64 x), (2, .int .i64 y), (3, .int .i64 k), (10, .int .i64 i)] ∧ H' = Ar H b t md n (swr f x.toNat y.toNat i.toNat)) k.toNat ⟨0, Int.le_refl _, hk, by omega, rfl, by rw [show (0 : Int).toNat = 0 from rfl, swr_same]⟩ ?_
  rintro m F' H' ⟨i, h0, h1, rfl, rfl, rfl⟩
  by_cases hik : i < k
  · refine VW.seq (VW.seq (VW.reg ?_))
    repeat first
      | (apply VOps.rd; (focus (first | exact rfl | (simp [Fr.only, argsF, *]; done))); (focus (exact rfl)))
      | (apply VOps.sk; (focus (simp [Fr.only, argsF, *]; done)))
      | (apply VOps.rd; (focus (first | exact rfl | (simp [Fr.only, argsF, *]; done))); (focus (simp [Fr.only, argsF, *]; first | done | exact rfl)))
    refine VOps.nil ⟨rfl, ?_⟩
    refine VW.condT (by simp [Fr.only, argsF, *]) (VW.skip ?_)
    obtain ⟨u, hu, hu0, hun, hux⟩ : ∃ u, IntKind.i64.wrap (x + i) = u ∧ 0 ≤ u ∧ u < n ∧ Hid (u.toNat = x.toNat + i.toNat) := ⟨x + i, wrap_id (by omega) (by omega), by omega, by omega, by unfold Hid; omega⟩
    obtain ⟨v, hv, hv0, hvn, hvy⟩ : ∃ v, IntKind.i64.wrap (y + i) = v ∧ 0 ≤ v ∧ v < n ∧ Hid (v.toNat = y.toNat + i.toNat) := ⟨y + i, wrap_id (by omega) (by omega), by omega, by omega, by unfold Hid; omega⟩
    have hi1 := wrap_id (x := i + 1) (by omega) (by omega)
    have e1 := Ar.ixp (t := t) (md := md) (f := swr f x.toNat y.toNat i.toNat) hb (k := u.toNat) (n := n) (by omega)
    have e2 := Ar.ixp (t := t) (md := md) (f := swr f x.toNat y.toNat i.toNat) hb (k := v.toNat) (n := n) (by omega)
    have d1 := Ar.ld (t := t) (md := md) (f := swr f x.toNat y.toNat i.toNat) hb (k := u.toNat) (n := n) (by omega)
    have d2 := Ar.ld (t := t) (md := md) (f := swr f x.toNat y.toNat i.toNat) hb (k := v.toNat) (n := n) (by omega)
    obtain ⟨s1, s2⟩ := Ar.swp2 (t := t) (f := swr f x.toNat y.toNat i.toNat) hb hm (i := u.toNat) (j := v.toNat) (n := n) (by omega) (by omega)
    have e3 := Ar.ixp (t := t) (md := md) (f := fun z => if z = u.toNat then swr f x.toNat y.toNat i.toNat v.toNat else swr f x.toNat y.toNat i.toNat z) hb (k := v.toNat) (n := n) (by omega)
    have hfin : Hid (Ar H b t md n (swp (swr f x.toNat y.toNat i.toNat) u.toNat v.toNat) = Ar H b t md n (swr f x.toNat y.toNat (i + 1).toNat)) := by
      unfold Hid
      rw [hux.out, hvy.out, swr_step (by omega), show (i + 1).toNat = i.toNat + 1 by omega]
    generalize Ar H b t md n (fun z => if z = u.toNat then swr f x.toNat y.toNat i.toNat v.toNat else swr f x.toNat y.toNat i.toNat z) = G1 at *
    generalize Ar H b t md n (swp (swr f x.toNat y.toNat i.toNat) u.toNat v.toNat) = G2 at *
    generalize Ar H b t md n (swr f x.toNat y.toNat i.toNat) = G0 at *
    refine VW.seq (VW.block ?_)
    refine VW.dreg [G0, G1, G2] mixed rfl ?_
    repeat first
      | (apply VX.rdp; (focus (first | exact rfl | (simp [Fr.only, argsF, *]; done))); (focus (exact fun _ => rfl)))
      | (apply VX.sk1; (focus (simp [Fr.only, argsF, *]; done)))
      | (apply VX.skc; (focus (simp [Fr.only, argsF, *]; done)))
      | (apply VX.rdp; (focus (first | exact rfl | (simp [Fr.only, argsF, *]; done))); (focus (intro _; simp [Fr.only, argsF, *]; first | done | exact rfl)))
      | (apply VX.rda; (focus (first | exact rfl | (simp [Fr.only, argsF, *]; done))); (focus (exact rfl)); (focus (exact rfl)); (focus (simp [Fr.only, argsF, *]; first | done | exact rfl)))
      | (apply VX.rdb; (focus (first | exact rfl | (simp [Fr.only, argsF, *]; done))); (focus (exact rfl)); (focus (exact rfl)); (focus (exact rfl)); (focus (simp [Fr.only, argsF, *]; first | done | exact rfl)); (focus (simp [Fr.only, argsF, *]; first | done | exact rfl)))
      | (apply VX.ef1; (focus (first | exact rfl | (simp [Fr.only, argsF, *]; done))); (focus (exact rfl)); (focus (simp [Fr.only, argsF, *]; first | done | exact rfl | exact ⟨rfl, rfl⟩)))
    refine VX.nil ?_
    show VW _ _ _ _ [(0, .sl (some ⟨b, 0, 0⟩) n c), (1, .int .i64 x), (2, .int .i64 y), (3, .int .i64 k), (10, .int .i64 i)] _ _
    refine VW.reg ?_
    repeat first
      | (apply VOps.rd; (focus (first | exact rfl | (simp [Fr.only, argsF, *]; done))); (focus (exact rfl)))
      | (apply VOps.sk; (focus (simp [Fr.only, argsF, *]; done)))
      | (apply VOps.rd; (focus (first | exact rfl | (simp [Fr.only, argsF, *]; done))); (focus (simp [Fr.only, argsF, *]; first | done | exact rfl)))
    refine VOps.nil ⟨rfl, (k - (i + 1)).toNat, by omega, i + 1, by omega, by omega, rfl, by simp [Fr.only, hi1], hfin⟩
  · have : i = k := by omega
    subst this
    refine VW.seq (VW.seq (VW.reg ?_))
    repeat first
      | (apply VOps.rd; (focus (first | exact rfl | (simp [Fr.only, argsF, *]; done))); (focus (exact rfl)))
      | (apply VOps.sk; (focus (simp [Fr.only, argsF, *]; done)))
      | (apply VOps.rd; (focus (first | exact rfl | (simp [Fr.only, argsF, *]; done))); (focus (simp [Fr.only, argsF, *]; first | done | exact rfl)))
    refine VOps.nil ⟨rfl, ?_⟩
    refine VW.condF (by simp [Fr.only, argsF, *]) (VW.exit ?_)
    simp only [then_normal, then_ret, then_exit, inB_normal, inB_ret, inB_exit, reduceIte, Nat.reduceEqDiff]
    exact ⟨by simp, _, rfl, rfl, trivial⟩

theorem rot59 (hb : b < H.length) (hm : md ≠ .ro) (hn : n ≤ 1000000000000) {x m y : Int} {cmp : VV} (hx : 0 ≤ x) (hxm : x < m) (hmy : m < y) (hyn : y ≤ n) :
    FnV Try.prog 59 [.sl (some ⟨b, 0, 0⟩) n c, .int .i64 x, .int .i64 m, .int .i64 y, cmp] (Ar H b t md n f) fun r H' => r = .tup [] ∧ H' = Ar H b t md n (rot f x.toNat m.toNat y.toNat) := by
  refine FnV.enterRow ok59 (by show 5 ≤ 58; decide) fun B => ?_
  dsimp only [w59]
  have v1 := wrap_id (x := m - x) (by omega) (by omega)
  have v2 := wrap_id (x := y - m) (by omega) (by omega)
  refine VW.seq (VW.reg ?_)
  repeat first
    | (apply VOps.rd; (focus (first | exact rfl | (simp [Fr.only, argsF, *]; done))); (focus (exact rfl)))
    | (apply VOps.sk; (focus (simp [Fr.only, argsF, *]; done)))
    | (apply VOps.rd; (focus (first | exact rfl | (simp [Fr.only, argsF, *]; done))); (focus (simp [Fr.only, argsF, *]; first | done | exact rfl)))
  refine VOps.nil ⟨rfl, ?_⟩
  refine VW.seq (VW.reg ?_)
  repeat first
    | (apply VOps.rd; (focus (first | exact rfl | (simp [Fr.only, argsF, *]; done))); (focus (exact rfl)))
    | (apply VOps.sk; (focus (simp [Fr.only, argsF, *]; done)))
    | (apply VOps.rd; (focus (first | exact rfl | (simp [Fr.only, argsF, *]; done))); (focus (simp [Fr.only, argsF, *]; first | done | exact rfl)))
  refine VOps.nil ⟨rfl, ?_⟩
  refine VW.seq (VW.block ?_)
  refine VW.loop (fun k F' H' => ∃ (i j : Int) (g : Nat → Int), 0 < i ∧ 0 < j ∧ i ≤ m - x ∧ j ≤ y - m ∧ k = (i + j).toNat ∧ F' = [(0, .sl (some ⟨b, 0, 0⟩) n c), (2, .int .i64 m), (4, cmp), (10, .int .i64 i), (11, .int .i64 j)] ∧ H' = Ar H b t md n g ∧ rot g (m.toNat - i.toNat) m.toNat (m.toNat + j.toNat) = rot f x.toNat m.toNat y.toNat) (y - x).toNat
    ⟨m - x, y - m, f, by omega, by omega, by omega, by omega, by omega, by simp [Fr.only, argsF, *], rfl, by congr 1 <;> omega⟩ ?_
  rintro k F' H' ⟨i, j, g, i0, j0, ix, jy, rfl, rfl, rfl, hg⟩
  clear v1 v2
  have v3 := wrap_id (x := m - i) (by omega) (by omega)
  by_cases hij : i = j
  · subst hij
    refine VW.seq (VW.seq (VW.reg ?_))
    repeat first
      | (apply VOps.rd; (focus (first | exact rfl | (simp [Fr.only, argsF, *]; done))); (focus (exact rfl)))
      | (apply VOps.sk; (focus (simp [Fr.only, argsF, *]; done)))
      | (apply VOps.rd; (focus (first | exact rfl | (simp [Fr.only, argsF, *]; done))); (focus (simp [Fr.only, argsF, *]; first | done | exact rfl)))
    refine VOps.nil ⟨rfl, ?_⟩
    refine VW.condF (by simp [Fr.only, argsF, *]) (VW.exit ?_)
    simp only [then_normal, then_ret, then_exit, inB_normal, inB_ret, inB_exit, reduceIte, Nat.reduceEqDiff]
    refine VW.reg ?_
    repeat first
      | (apply VOps.rd; (focus (first | exact rfl | (simp [Fr.only, argsF, *]; done))); (focus (exact rfl)))
      | (apply VOps.sk; (focus (simp [Fr.only, argsF, *]; done)))
      | (apply VOps.rd; (focus (first | exact rfl | (simp [Fr.only, argsF, *]; done))); (focus (simp [Fr.only, argsF, *]; first | done | exact rfl)))
    refine VOps.call rfl rfl (by simp [Fr.only, argsF, *]; rfl) ((swp61 (t := t) (f := g) (c := c) (cmp := cmp) (x := m - i) (y := m) (k := i) hb hm hn (by omega) (by omega) (by omega) (by omega) (by omega) (by omega)).mono ?_)
    rintro r H2 ⟨rfl, rfl⟩
    refine VOps.nil ⟨rfl, by simp, _, rfl, rfl, ?_⟩
    rw [show (m - i).toNat = m.toNat - i.toNat by omega, rot_even (by omega), hg]
  · refine VW.seq (VW.seq (VW.reg ?_))
    repeat first
      | (apply VOps.rd; (focus (first | exact rfl | (simp [Fr.only, argsF, *]; done))); (focus (exact rfl)))
      | (apply VOps.sk; (focus (simp [Fr.only, argsF, *]; done)))
      | (apply VOps.rd; (focus (first | exact rfl | (simp [Fr.only, argsF, *]; done))); (focus (simp [Fr.only, argsF, *]; first | done | exact rfl)))
    refine VOps.nil ⟨rfl, ?_⟩
    refine VW.condT (by simp [Fr.only, argsF, *]) (VW.skip ?_)
    refine VW.block ?_
    by_cases hlt : j < i
    · have v4 := wrap_id (x := i - j) (by omega) (by omega)
      refine VW.seq (VW.reg ?_)
      repeat first
        | (apply VOps.rd; (focus (first | exact rfl | (simp [Fr.only, argsF, *]; done))); (focus (exact rfl)))
        | (apply VOps.sk; (focus (simp [Fr.only, argsF, *]; done)))
        | (apply VOps.rd; (focus (first | exact rfl | (simp [Fr.only, argsF, *]; done))); (focus (simp [Fr.only, argsF, *]; first | done | exact rfl)))
      refine VOps.nil ⟨rfl, ?_⟩
      refine VW.condT (by simp [Fr.only, argsF, *]) ?_
      refine VW.seq (VW.reg ?_)
      repeat first
        | (apply VOps.rd; (focus (first | exact rfl | (simp [Fr.only, argsF, *]; done))); (focus (exact rfl)))
        | (apply VOps.sk; (focus (simp [Fr.only, argsF, *]; done)))
        | (apply VOps.rd; (focus (first | exact rfl | (simp [Fr.only, argsF, *]; done))); (focus (simp [Fr.only, argsF, *]; first | done | exact rfl)))
      refine VOps.call rfl rfl (by simp [Fr.only, argsF, *]; rfl) ((swp61 (t := t) (f := g) (c := c) (cmp := cmp) (x := m - i) (y := m) (k := j) hb hm hn (by omega) (by omega) (by omega) (by omega) (by omega) (by omega)).mono ?_)
      rintro r H2 ⟨rfl, rfl⟩
      refine VOps.nil ⟨rfl, ?_⟩
      refine VW.reg ?_
      repeat first
        | (apply VOps.rd; (focus (first | exact rfl | (simp [Fr.only, argsF, *]; done))); (focus (exact rfl)))
        | (apply VOps.sk; (focus (simp [Fr.only, argsF, *]; done)))
        | (apply VOps.rd; (focus (first | exact rfl | (simp [Fr.only, argsF, *]; done))); (focus (simp [Fr.only, argsF, *]; first | done | exact rfl)))
      refine VOps.nil ⟨rfl, (i - j + j).toNat, by omega, i - j, j, _, by omega, j0, by omega, jy, rfl, by simp [Fr.only, argsF, *], rfl, ?_⟩
      rw [← hg, show (m - i).toNat = m.toNat - i.toNat by omega, ← rot_left (f := g) (i := i.toNat) (j := j.toNat) (m := m.toNat) (by omega) (by omega)]
      congr 1; omega
    · have v4 := wrap_id (x := j - i) (by omega) (by omega)
      have v5 := wrap_id (x := m + j) (by omega) (by omega)
      have v6 := wrap_id (x := m + j - i) (by omega) (by omega)
      refine VW.seq (VW.reg ?_)
      repeat first
        | (apply VOps.rd; (focus (first | exact rfl | (simp [Fr.only, argsF, *]; done))); (focus (exact rfl)))
        | (apply VOps.sk; (focus (simp [Fr.only, argsF, *]; done)))
        | (apply VOps.rd; (focus (first | exact rfl | (simp [Fr.only, argsF, *]; done))); (focus (simp [Fr.only, argsF, *]; first | done | exact rfl)))
      refine VOps.nil ⟨rfl, ?_⟩
      refine VW.condF (by simp [Fr.only, argsF, *]) ?_
      refine VW.seq (VW.reg ?_)
      repeat first
        | (apply VOps.rd; (focus (first | exact rfl | (simp [Fr.only, argsF, *]; done))); (focus (exact rfl)))
        | (apply VOps.sk; (focus (simp [Fr.only, argsF, *]; done)))
        | (apply VOps.rd; (focus (first | exact rfl | (simp [Fr.only, argsF, *]; done))); (focus (simp [Fr.only, argsF, *]; first | done | exact rfl)))
      refine VOps.call rfl rfl (by simp [Fr.only, argsF, *]; rfl) ((swp61 (t := t) (f := g) (c := c) (cmp := cmp) (x := m - i) (y := m + j - i) (k := i) hb hm hn (by omega) (by omega) (by omega) (by omega) (by omega) (by omega)).mono ?_)
      rintro r H2 ⟨rfl, rfl⟩
      refine VOps.nil ⟨rfl, ?_⟩
      refine VW.reg ?_
      repeat first
        | (apply VOps.rd; (focus (first | exact rfl | (simp [Fr.only, argsF, *]; done))); (focus (exact rfl)))
        | (apply VOps.sk; (focus (simp [Fr.only, argsF, *]; done)))
        | (apply VOps.rd; (focus (first | exact rfl | (simp [Fr.only, argsF, *]; done))); (focus (simp [Fr.only, argsF, *]; first | done | exact rfl)))
      refine VOps.nil ⟨rfl, (i + (j - i)).toNat, by omega, i, j - i, _, i0, by omega, ix, by omega, rfl, by simp [Fr.only, argsF, *], rfl, ?_⟩
      rw [← hg, show (m - i).toNat = m.toNat - i.toNat by omega, show (m + j - i).toNat = m.toNat + j.toNat - i.toNat by omega, ← rot_right (f := g) (i := i.toNat) (j := j.toNat) (m := m.toNat) (by omega) (by omega)]
      congr 1; omega
end
end Go.Proofs.Ytlclbfkdaemilaa
