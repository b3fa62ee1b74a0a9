/- The library's merge in place over the canonical heap, on a row of ints. -/
import Derived.Test.YtlclbfkdaemilaaSrB
import Derived.Test.YtlclbfkdaemilaaFnF
namespace Go.Proofs.Ytlclbfkdaemilaa
set_option linter.unusedSimpArgs false
set_option linter.unusedVariables false
open Go Go.Vm Go.Proofs So
set_option maxRecDepth 100000
set_option maxHeartbeats 2000000

theorem half {s : Int} (h : 0 ≤ s) : s.fdiv (2 ^ min 1 IntKind.u64.bits) = s / 2 := by
  show s.fdiv 2 = s / 2
  rw [Int.fdiv_eq_ediv_of_nonneg _ (by omega)]
theorem wrapu {x : Int} (h1 : 0 ≤ x) (h2 : x ≤ 18446744073709551615) : IntKind.u64.wrap x = x := by
  simp [IntKind.wrap, IntKind.bits, IntKind.signed]
  omega
theorem mid2 {i j : Int} (h0 : 0 ≤ i) (h1 : i < j) (h2 : j ≤ 1000000000000) : ∃ s h, IntKind.i64.wrap (i + j) = s ∧ IntKind.u64.wrap s = s ∧ s.fdiv (2 ^ min 1 IntKind.u64.bits) = h ∧ IntKind.i64.wrap h = h ∧ i ≤ h ∧ h < j ∧ 0 ≤ h ∧ Hid (h = (i + j) / 2) :=
  ⟨i + j, (i + j) / 2, wrap_id (by omega) (by omega), wrapu (by omega) (by omega), half (by omega), wrap_id (by omega) (by omega), by omega, by omega, by omega, rfl⟩

section
variable {H : Hp} {b n c : Nat} {t : TypeId} {md : Vm.Mode} {f : Nat → Int}

theorem sym54 (hb : b < H.length) (hm : md ≠ .ro) (hn : n ≤ 1000000000000) {cmp : VV} {key : Int → Int} {D : Int → Prop} (hc : CmpK H b t md n cmp key D) : ∀ (N : Nat) {f : Nat → Int} {x m y : Int}, y - x ≤ N → 0 ≤ x → x < m → m < y → y ≤ n → (∀ k, k < n → D (f k)) →
    Srt key f x.toNat m.toNat → Srt key f m.toNat y.toNat → Sep f x.toNat m.toNat y.toNat →
    FnV Try.prog 54 [.sl (some ⟨b, 0, 0⟩) n c, .int .i64 x, .int .i64 m, .int .i64 y, cmp] (Ar H b t md n f) fun r H' => r = .tup [] ∧ ∃ g, H' = Ar H b t md n g ∧ Srt key g x.toNat y.toNat ∧ Mx f g x.toNat y.toNat := by
  intro N
  induction N with
  | zero => intros; omega
  | succ N ih =>
  intro f x m y hN hx hxm hmy hyn hD hs1 hs2 hsep
  obtain ⟨fc, caps, rfl, hcall⟩ := hc.run
  refine FnV.enterRow ok54 (by show 5 ≤ 220; decide) fun B => ?_
  dsimp only [w54]
  have v1 := wrap_id (x := m - x) (by omega) (by omega)
  have v2 := wrap_id (x := y - m) (by omega) (by omega)
  by_cases c1 : m - x = 1
  · -- the first part is one
    have hm1 : m ≤ x + 1 := by omega
    have v0 : IntKind.i64.wrap 1 = 1 := by decide
    have e1 : Hid (m.toNat = x.toNat + 1) := by unfold Hid; omega
    refine VW.seq (VW.seq (VW.reg ?_))
    repeat first
      | (apply VOps.rd; (focus (first | exact rfl | (simp [Fr.only, argsF, *]; done))); (focus (exact rfl)))
      | (apply VOps.sk; (focus (simp [Fr.only, argsF, *]; done)))
      | (apply VOps.rd; (focus (first | exact rfl | (simp [Fr.only, argsF, *]; done))); (focus (simp [Fr.only, argsF, *]; first | done | exact rfl)))
    refine VOps.nil ⟨rfl, ?_⟩
    refine VW.condT (by simp [Fr.only, argsF, *]) ?_
    refine VW.seq (VW.reg ?_)
    repeat first
      | (apply VOps.rd; (focus (first | exact rfl | (simp [Fr.only, argsF, *]; done))); (focus (exact rfl)))
      | (apply VOps.sk; (focus (simp [Fr.only, argsF, *]; done)))
      | (apply VOps.rd; (focus (first | exact rfl | (simp [Fr.only, argsF, *]; done))); (focus (simp [Fr.only, argsF, *]; first | done | exact rfl)))
    refine VOps.nil ⟨rfl, ?_⟩
    refine VW.seq (VW.reg ?_)
    repeat first
      | (apply VOps.rd; (focus (first | exact rfl | (simp [Fr.only, argsF, *]; done))); (focus (exact rfl)))
      | (apply VOps.sk; (focus (simp [Fr.only, argsF, *]; done)))
      | (apply VOps.rd; (focus (first | exact rfl | (simp [Fr.only, argsF, *]; done))); (focus (simp [Fr.only, argsF, *]; first | done | exact rfl)))
    refine VOps.nil ⟨rfl, ?_⟩
    refine VW.seq (VW.block ?_)
    refine VW.loop (fun k F' H' => ∃ (i j : Int), x + 1 ≤ i ∧ i ≤ j ∧ j ≤ y ∧ k = (j - i).toNat ∧ F' = [(0, .sl (some ⟨b, 0, 0⟩) n c), (1, .int .i64 x), (4, .fn fc caps), (10, .int .i64 i), (11, .int .i64 j)] ∧ H' = Ar H b t md n f ∧
      (∀ z, x.toNat + 1 ≤ z → z < i.toNat → lt key (f z) (f x.toNat)) ∧ (∀ z, j.toNat ≤ z → z < y.toNat → lt key (f x.toNat) (f z))) (y - m).toNat
      ⟨m, y, by omega, by omega, by omega, rfl, by simp [Fr.only, argsF, *], rfl, fun z h1 h2 => by omega, fun z h1 h2 => by omega⟩ ?_
    rintro k F' H' ⟨i, j, hi, hij, hjy, rfl, rfl, rfl, hl, hg⟩
    by_cases hij2 : i < j
    · refine VW.seq (VW.seq (VW.reg ?_))
      repeat first
        | (apply VOps.rd; (focus (first | exact rfl | (simp [Fr.only, argsF, *]; done))); (focus (exact rfl)))
        | (apply VOps.sk; (focus (simp [Fr.only, argsF, *]; done)))
        | (apply VOps.rd; (focus (first | exact rfl | (simp [Fr.only, argsF, *]; done))); (focus (simp [Fr.only, argsF, *]; first | done | exact rfl)))
      refine VOps.nil ⟨rfl, ?_⟩
      refine VW.condT (by simp [Fr.only, argsF, *]) (VW.skip ?_)
      obtain ⟨s, h, a1, a2, a3, a4, a5, a6, a7, a8⟩ := mid2 (i := i) (j := j) (by omega) hij2 (by omega)
      refine VW.block (VW.seq (VW.reg ?_))
      repeat first
        | (apply VOps.rd; (focus (first | exact rfl | (simp [Fr.only, argsF, *]; done))); (focus (exact rfl)))
        | (apply VOps.sk; (focus (simp [Fr.only, argsF, *]; done)))
        | (apply VOps.rd; (focus (first | exact rfl | (simp [Fr.only, argsF, *]; done))); (focus (simp [Fr.only, argsF, *]; first | done | exact rfl)))
      refine VOps.nil ⟨rfl, ?_⟩
      have d1 := Ar.ld (t := t) (md := md) (f := f) hb (k := h.toNat) (n := n) (by omega)
      have d2 := Ar.ld (t := t) (md := md) (f := f) hb (k := x.toNat) (n := n) (by omega)
      have p1 := Ar.ixp (t := t) (md := md) (f := f) hb (k := h.toNat) (n := n) (by omega)
      have p2 := Ar.ixp (t := t) (md := md) (f := f) hb (k := x.toNat) (n := n) (by omega)
      have hcall := hcall f (f h.toNat) (f x.toNat) (hD _ (by omega)) (hD _ (by omega))
      obtain ⟨r1, r2⟩ := hc.rng (f h.toNat) (hD _ (by omega))
      obtain ⟨r3, r4⟩ := hc.rng (f x.toNat) (hD _ (by omega))
      have hxn : x < n := by omega
      have hhn : h < n := by omega
      refine VW.seq ?_
      refine VW.mono (Q := fun e F2 Hx => e = .normal ∧ F2 = [(0, .sl (some ⟨b, 0, 0⟩) n c), (1, .int .i64 x), (4, .fn fc caps), (10, .int .i64 i), (11, .int .i64 j), (12, .int .i64 h), (50, .bool (decide (key (f x.toNat) - key (f h.toNat) < 0)))] ∧ Hx = Ar H b t md n f) ?_ ?_
      · clear hl hg hs1 hs2 hsep hD ih
        refine VW.dreg [Ar H b t md n f] mixed rfl ?_
        repeat first
          | (apply VX.rd1; (focus (first | exact rfl | (simp [Fr.only, argsF, *]; done))); (focus (exact rfl)))
          | (apply VX.sk1; (focus (simp [Fr.only, argsF, *]; done)))
          | (apply VX.rd1; (focus (first | exact rfl | (simp [Fr.only, argsF, *]; done))); (focus (simp [Fr.only, argsF, *]; first | done | exact rfl)))
        refine VX.call1 (by simp [*]) rfl rfl hcall ?_
        repeat first
          | (apply VX.rd1; (focus (first | exact rfl | (simp [Fr.only, argsF, *]; done))); (focus (exact rfl)))
          | (apply VX.sk1; (focus (simp [Fr.only, argsF, *]; done)))
          | (apply VX.rd1; (focus (first | exact rfl | (simp [Fr.only, argsF, *]; done))); (focus (simp [Fr.only, argsF, *]; first | done | exact rfl)))
        exact VX.nil ⟨rfl, by simp [Fr.only, *], rfl⟩
      rintro e F2 Hx ⟨rfl, rfl, rfl⟩
      have hsx := hsep x.toNat h.toNat (by omega) (by omega) (by omega) (by omega)
      refine VW.cond rfl (fun a => ?_) (fun a => ?_)
      · have a := of_decide_eq_true a
        have v3 := wrap_id (x := h + 1) (by omega) (by omega)
        have hl' : ∀ z, x.toNat + 1 ≤ z → z < (h + 1).toNat → lt key (f z) (f x.toNat) := by
          intro z h1 h2
          have q : lt key (f h.toNat) (f x.toNat) := .inl (by omega)
          by_cases e : z = h.toNat
          · rw [e]; exact q
          · exact (hs2 z h.toNat (by omega) (by omega) (by omega)).trans q
        refine VW.reg ?_
        repeat first
          | (apply VOps.rd; (focus (first | exact rfl | (simp [Fr.only, argsF, *]; done))); (focus (exact rfl)))
          | (apply VOps.sk; (focus (simp [Fr.only, argsF, *]; done)))
          | (apply VOps.rd; (focus (first | exact rfl | (simp [Fr.only, argsF, *]; done))); (focus (simp [Fr.only, argsF, *]; first | done | exact rfl)))
        refine VOps.nil ⟨rfl, (j - (h + 1)).toNat, by omega, h + 1, j, by omega, by omega, hjy, rfl, by simp [Fr.only, v3], rfl, hl', hg⟩
      · have a := of_decide_eq_false a
        have hg' : ∀ z, h.toNat ≤ z → z < y.toNat → lt key (f x.toNat) (f z) := by
          intro z h1 h2
          have q : lt key (f x.toNat) (f h.toNat) := by unfold lt; omega
          by_cases e : z = h.toNat
          · rw [e]; exact q
          · exact q.trans (hs2 h.toNat z (by omega) (by omega) (by omega))
        refine VW.reg ?_
        repeat first
          | (apply VOps.rd; (focus (first | exact rfl | (simp [Fr.only, argsF, *]; done))); (focus (exact rfl)))
          | (apply VOps.sk; (focus (simp [Fr.only, argsF, *]; done)))
          | (apply VOps.rd; (focus (first | exact rfl | (simp [Fr.only, argsF, *]; done))); (focus (simp [Fr.only, argsF, *]; first | done | exact rfl)))
        refine VOps.nil ⟨rfl, (h - i).toNat, by omega, i, h, by omega, by omega, by omega, rfl, by simp [Fr.only], rfl, hl, hg'⟩
    · have : i = j := by omega
      subst this
      refine VW.seq (VW.seq (VW.reg ?_))
      repeat first
        | (apply VOps.rd; (focus (first | exact rfl | (simp [Fr.only, argsF, *]; done))); (focus (exact rfl)))
        | (apply VOps.sk; (focus (simp [Fr.only, argsF, *]; done)))
        | (apply VOps.rd; (focus (first | exact rfl | (simp [Fr.only, argsF, *]; done))); (focus (simp [Fr.only, argsF, *]; first | done | exact rfl)))
      refine VOps.nil ⟨rfl, ?_⟩
      refine VW.condF (by simp [Fr.only, argsF, *]) (VW.exit ?_)
      simp only [then_normal, then_ret, then_exit, inB_normal, inB_ret, inB_exit, reduceIte, Nat.reduceEqDiff]
      refine VW.seq (VW.seq (VW.reg ?_))
      repeat first
        | (apply VOps.rd; (focus (first | exact rfl | (simp [Fr.only, argsF, *]; done))); (focus (exact rfl)))
        | (apply VOps.sk; (focus (simp [Fr.only, argsF, *]; done)))
        | (apply VOps.rd; (focus (first | exact rfl | (simp [Fr.only, argsF, *]; done))); (focus (simp [Fr.only, argsF, *]; first | done | exact rfl)))
      refine VOps.nil ⟨rfl, ?_⟩
      refine VW.block ?_
      refine VW.loop (fun k F' H' => ∃ (q : Int), x ≤ q ∧ q ≤ i - 1 ∧ k = (i - 1 - q).toNat ∧ F' = [(0, .sl (some ⟨b, 0, 0⟩) n c), (10, .int .i64 i), (13, .int .i64 q)] ∧ H' = Ar H b t md n (rot f x.toNat (x.toNat + 1) (q.toNat + 1))) (i - 1 - x).toNat
        ⟨x, by omega, by omega, rfl, by simp [Fr.only, argsF, *], by rw [rot1_same]⟩ ?_
      rintro k F' H' ⟨q, hxq, hqi, rfl, rfl, rfl⟩
      have v3 := wrap_id (x := i - 1) (by omega) (by omega)
      by_cases hq : q < i - 1
      · refine VW.seq (VW.seq (VW.reg ?_))
        repeat first
          | (apply VOps.rd; (focus (first | exact rfl | (simp [Fr.only, argsF, *]; done))); (focus (exact rfl)))
          | (apply VOps.sk; (focus (simp [Fr.only, argsF, *]; done)))
          | (apply VOps.rd; (focus (first | exact rfl | (simp [Fr.only, argsF, *]; done))); (focus (simp [Fr.only, argsF, *]; first | done | exact rfl)))
        refine VOps.nil ⟨rfl, ?_⟩
        refine VW.condT (by simp [Fr.only, argsF, *]) (VW.skip ?_)
        obtain ⟨u, hu, hu0, hun, hux⟩ : ∃ u, IntKind.i64.wrap (q + 1) = u ∧ 0 ≤ u ∧ u < n ∧ Hid (u = q + 1) := ⟨q + 1, wrap_id (by omega) (by omega), by omega, by omega, rfl⟩
        have hq0 : 0 ≤ q := by omega
        have hqn : q < n := by omega
        generalize hgg : rot f x.toNat (x.toNat + 1) (q.toNat + 1) = g at *
        have p1 := Ar.ixp (t := t) (md := md) (f := g) hb (k := q.toNat) (n := n) (by omega)
        have p2 := Ar.ixp (t := t) (md := md) (f := g) hb (k := u.toNat) (n := n) (by omega)
        have d1 := Ar.ld (t := t) (md := md) (f := g) hb (k := q.toNat) (n := n) (by omega)
        have d2 := Ar.ld (t := t) (md := md) (f := g) hb (k := u.toNat) (n := n) (by omega)
        obtain ⟨s1, s2⟩ := Ar.swp2 (t := t) (f := g) hb hm (i := q.toNat) (j := u.toNat) (n := n) (by omega) (by omega)
        have p3 := Ar.ixp (t := t) (md := md) (f := fun z => if z = q.toNat then g u.toNat else g z) hb (k := u.toNat) (n := n) (by omega)
        have hfin : Hid (Ar H b t md n (swp g q.toNat u.toNat) = Ar H b t md n (rot f x.toNat (x.toNat + 1) ((q + 1).toNat + 1))) := by
          have := hux.out
          unfold Hid
          rw [← hgg, show u.toNat = q.toNat + 1 by omega, rot1_step (by omega), show (q + 1).toNat + 1 = q.toNat + 2 by omega]
        clear hl hg hs1 hs2 hsep hD ih hgg
        generalize Ar H b t md n (fun z => if z = q.toNat then g u.toNat else g z) = G1 at *
        generalize Ar H b t md n (swp g q.toNat u.toNat) = G2 at *
        generalize Ar H b t md n g = G0 at *
        refine VW.seq (VW.block ?_)
        refine VW.dreg [G0, G1, G2] mixed rfl ?_
        repeat first
          | (apply VX.rdp; (focus (first | exact rfl | (simp [Fr.only, argsF, *]; done))); (focus (exact fun _ => rfl)))
          | (apply VX.sk1; (focus (simp [Fr.only, argsF, *]; done)))
          | (apply VX.skc; (focus (simp [Fr.only, argsF, *]; done)))
          | (apply VX.rdp; (focus (first | exact rfl | (simp [Fr.only, argsF, *]; done))); (focus (intro _; simp [Fr.only, argsF, *]; first | done | exact rfl)))
          | (apply VX.rda; (focus (first | exact rfl | (simp [Fr.only, argsF, *]; done))); (focus (exact rfl)); (focus (exact rfl)); (focus (simp [Fr.only, argsF, *]; first | done | exact rfl)))
          | (apply VX.rdb; (focus (first | exact rfl | (simp [Fr.only, argsF, *]; done))); (focus (exact rfl)); (focus (exact rfl)); (focus (exact rfl)); (focus (simp [Fr.only, argsF, *]; first | done | exact rfl)); (focus (simp [Fr.only, argsF, *]; first | done | exact rfl)))
          | (apply VX.ef1; (focus (first | exact rfl | (simp [Fr.only, argsF, *]; done))); (focus (exact rfl)); (focus (simp [Fr.only, argsF, *]; first | done | exact rfl | exact ⟨rfl, rfl⟩)))
        refine VX.nil ?_
        show VW _ _ _ _ [(0, .sl (some ⟨b, 0, 0⟩) n c), (10, .int .i64 i), (13, .int .i64 q)] _ _
        refine VW.reg ?_
        refine VOps.rd rfl rfl ?_
        refine VOps.rd rfl rfl ?_
        refine VOps.rd rfl rfl ?_
        have := hux.out
        refine VOps.nil ⟨rfl, (i - 1 - (q + 1)).toNat, by omega, q + 1, by omega, by omega, rfl, ?_, hfin⟩
        simp [Fr.only, hu, this]
      · have hq' : q = i - 1 := by omega
        refine VW.seq (VW.seq (VW.reg ?_))
        repeat first
          | (apply VOps.rd; (focus (first | exact rfl | (simp [Fr.only, argsF, *]; done))); (focus (exact rfl)))
          | (apply VOps.sk; (focus (simp [Fr.only, argsF, *]; done)))
          | (apply VOps.rd; (focus (first | exact rfl | (simp [Fr.only, argsF, *]; done))); (focus (simp [Fr.only, argsF, *]; first | done | exact rfl)))
        refine VOps.nil ⟨rfl, ?_⟩
        refine VW.condF (by simp [Fr.only, argsF, *]) (VW.exit ?_)
        simp only [then_normal, then_ret, then_exit, inB_normal, inB_ret, inB_exit, reduceIte, Nat.reduceEqDiff]
        refine VW.ret ⟨by simp, _, rfl, rfl, _, rfl, ?_, ?_⟩
        · rw [show q.toNat + 1 = i.toNat by omega]
          exact rot1_sorted (by rw [← e1.out]; exact hs2) (by omega) (by omega) hl hg
        · exact (mx_rot (by omega) (by omega)).widen (by omega) (by omega)
  refine VW.seq (VW.seq (VW.reg ?_))
  repeat first
    | (apply VOps.rd; (focus (first | exact rfl | (simp [Fr.only, argsF, *]; done))); (focus (exact rfl)))
    | (apply VOps.sk; (focus (simp [Fr.only, argsF, *]; done)))
    | (apply VOps.rd; (focus (first | exact rfl | (simp [Fr.only, argsF, *]; done))); (focus (simp [Fr.only, argsF, *]; first | done | exact rfl)))
  refine VOps.nil ⟨rfl, ?_⟩
  refine VW.condF (by simp [Fr.only, argsF, *]) (VW.skip ?_)
  refine VW.sub (G := [(0, .sl (some ⟨b, 0, 0⟩) n c), (1, .int .i64 x), (2, .int .i64 m), (3, .int .i64 y), (4, .fn fc caps)]) (by simp [Cov, Fr.only, argsF]) ?_
  by_cases c2 : y - m = 1
  · -- the second part is one
    have hm1 : y ≤ m + 1 := by omega
    have v0 : IntKind.i64.wrap 1 = 1 := by decide
    have e1 : Hid (y.toNat = m.toNat + 1) := by unfold Hid; omega
    refine VW.seq (VW.seq (VW.reg ?_))
    repeat first
      | (apply VOps.rd; (focus (first | exact rfl | (simp [Fr.only, argsF, *]; done))); (focus (exact rfl)))
      | (apply VOps.sk; (focus (simp [Fr.only, argsF, *]; done)))
      | (apply VOps.rd; (focus (first | exact rfl | (simp [Fr.only, argsF, *]; done))); (focus (simp [Fr.only, argsF, *]; first | done | exact rfl)))
    refine VOps.nil ⟨rfl, ?_⟩
    refine VW.condT (by simp [Fr.only, argsF, *]) ?_
    refine VW.seq (VW.reg ?_)
    repeat first
      | (apply VOps.rd; (focus (first | exact rfl | (simp [Fr.only, argsF, *]; done))); (focus (exact rfl)))
      | (apply VOps.sk; (focus (simp [Fr.only, argsF, *]; done)))
      | (apply VOps.rd; (focus (first | exact rfl | (simp [Fr.only, argsF, *]; done))); (focus (simp [Fr.only, argsF, *]; first | done | exact rfl)))
    refine VOps.nil ⟨rfl, ?_⟩
    refine VW.seq (VW.reg ?_)
    repeat first
      | (apply VOps.rd; (focus (first | exact rfl | (simp [Fr.only, argsF, *]; done))); (focus (exact rfl)))
      | (apply VOps.sk; (focus (simp [Fr.only, argsF, *]; done)))
      | (apply VOps.rd; (focus (first | exact rfl | (simp [Fr.only, argsF, *]; done))); (focus (simp [Fr.only, argsF, *]; first | done | exact rfl)))
    refine VOps.nil ⟨rfl, ?_⟩
    refine VW.seq (VW.block ?_)
    refine VW.loop (fun k F' H' => ∃ (i j : Int), x ≤ i ∧ i ≤ j ∧ j ≤ m ∧ k = (j - i).toNat ∧ F' = [(0, .sl (some ⟨b, 0, 0⟩) n c), (2, .int .i64 m), (4, .fn fc caps), (14, .int .i64 i), (15, .int .i64 j)] ∧ H' = Ar H b t md n f ∧
      (∀ z, x.toNat ≤ z → z < i.toNat → lt key (f z) (f m.toNat)) ∧ (∀ z, j.toNat ≤ z → z < m.toNat → lt key (f m.toNat) (f z))) (m - x).toNat
      ⟨x, m, by omega, by omega, by omega, rfl, by simp [Fr.only, argsF, *], rfl, fun z h1 h2 => by omega, fun z h1 h2 => by omega⟩ ?_
    rintro k F' H' ⟨i, j, hi, hij, hjy, rfl, rfl, rfl, hl, hg⟩
    by_cases hij2 : i < j
    · refine VW.seq (VW.seq (VW.reg ?_))
      repeat first
        | (apply VOps.rd; (focus (first | exact rfl | (simp [Fr.only, argsF, *]; done))); (focus (exact rfl)))
        | (apply VOps.sk; (focus (simp [Fr.only, argsF, *]; done)))
        | (apply VOps.rd; (focus (first | exact rfl | (simp [Fr.only, argsF, *]; done))); (focus (simp [Fr.only, argsF, *]; first | done | exact rfl)))
      refine VOps.nil ⟨rfl, ?_⟩
      refine VW.condT (by simp [Fr.only, argsF, *]) (VW.skip ?_)
      obtain ⟨s, h, a1, a2, a3, a4, a5, a6, a7, a8⟩ := mid2 (i := i) (j := j) (by omega) hij2 (by omega)
      refine VW.block (VW.seq (VW.reg ?_))
      repeat first
        | (apply VOps.rd; (focus (first | exact rfl | (simp [Fr.only, argsF, *]; done))); (focus (exact rfl)))
        | (apply VOps.sk; (focus (simp [Fr.only, argsF, *]; done)))
        | (apply VOps.rd; (focus (first | exact rfl | (simp [Fr.only, argsF, *]; done))); (focus (simp [Fr.only, argsF, *]; first | done | exact rfl)))
      refine VOps.nil ⟨rfl, ?_⟩
      have d1 := Ar.ld (t := t) (md := md) (f := f) hb (k := h.toNat) (n := n) (by omega)
      have d2 := Ar.ld (t := t) (md := md) (f := f) hb (k := m.toNat) (n := n) (by omega)
      have p1 := Ar.ixp (t := t) (md := md) (f := f) hb (k := h.toNat) (n := n) (by omega)
      have p2 := Ar.ixp (t := t) (md := md) (f := f) hb (k := m.toNat) (n := n) (by omega)
      have hcall := hcall f (f m.toNat) (f h.toNat) (hD _ (by omega)) (hD _ (by omega))
      obtain ⟨r1, r2⟩ := hc.rng (f h.toNat) (hD _ (by omega))
      obtain ⟨r3, r4⟩ := hc.rng (f m.toNat) (hD _ (by omega))
      have hmn : m < n := by omega
      have hm0 : 0 ≤ m := by omega
      have hhn : h < n := by omega
      refine VW.seq ?_
      refine VW.mono (Q := fun e F2 Hx => e = .normal ∧ F2 = [(0, .sl (some ⟨b, 0, 0⟩) n c), (2, .int .i64 m), (4, .fn fc caps), (14, .int .i64 i), (15, .int .i64 j), (16, .int .i64 h), (103, .bool (!decide (key (f h.toNat) - key (f m.toNat) < 0)))] ∧ Hx = Ar H b t md n f) ?_ ?_
      · clear hl hg hs1 hs2 hsep hD ih
        refine VW.dreg [Ar H b t md n f] mixed rfl ?_
        repeat first
          | (apply VX.rd1; (focus (first | exact rfl | (simp [Fr.only, argsF, *]; done))); (focus (exact rfl)))
          | (apply VX.sk1; (focus (simp [Fr.only, argsF, *]; done)))
          | (apply VX.rd1; (focus (first | exact rfl | (simp [Fr.only, argsF, *]; done))); (focus (simp [Fr.only, argsF, *]; first | done | exact rfl)))
        refine VX.call1 (by simp [*]) rfl rfl hcall ?_
        refine VX.rd1 rfl rfl ?_
        refine VX.rd1 rfl rfl ?_
        exact VX.nil ⟨rfl, by simp [Fr.only, *], rfl⟩
      rintro e F2 Hx ⟨rfl, rfl, rfl⟩
      have hsx := hsep h.toNat m.toNat (by omega) (by omega) (by omega) (by omega)
      refine VW.cond rfl (fun a => ?_) (fun a => ?_)
      · have a : ¬ key (f h.toNat) - key (f m.toNat) < 0 := by simpa using a
        have v3 := wrap_id (x := h + 1) (by omega) (by omega)
        have hl' : ∀ z, x.toNat ≤ z → z < (h + 1).toNat → lt key (f z) (f m.toNat) := by
          intro z h1 h2
          have q : lt key (f h.toNat) (f m.toNat) := by unfold lt; omega
          by_cases e : z = h.toNat
          · rw [e]; exact q
          · exact (hs1 z h.toNat (by omega) (by omega) (by omega)).trans q
        refine VW.reg ?_
        repeat first
          | (apply VOps.rd; (focus (first | exact rfl | (simp [Fr.only, argsF, *]; done))); (focus (exact rfl)))
          | (apply VOps.sk; (focus (simp [Fr.only, argsF, *]; done)))
          | (apply VOps.rd; (focus (first | exact rfl | (simp [Fr.only, argsF, *]; done))); (focus (simp [Fr.only, argsF, *]; first | done | exact rfl)))
        refine VOps.nil ⟨rfl, (j - (h + 1)).toNat, by omega, h + 1, j, by omega, by omega, hjy, rfl, by simp [Fr.only, v3], rfl, hl', hg⟩
      · have a : key (f h.toNat) - key (f m.toNat) < 0 := by simpa using a
        have hg' : ∀ z, h.toNat ≤ z → z < m.toNat → lt key (f m.toNat) (f z) := by
          intro z h1 h2
          have q : lt key (f m.toNat) (f h.toNat) := by unfold lt; omega
          by_cases e : z = h.toNat
          · rw [e]; exact q
          · exact q.trans (hs1 h.toNat z (by omega) (by omega) (by omega))
        refine VW.reg ?_
        repeat first
          | (apply VOps.rd; (focus (first | exact rfl | (simp [Fr.only, argsF, *]; done))); (focus (exact rfl)))
          | (apply VOps.sk; (focus (simp [Fr.only, argsF, *]; done)))
          | (apply VOps.rd; (focus (first | exact rfl | (simp [Fr.only, argsF, *]; done))); (focus (simp [Fr.only, argsF, *]; first | done | exact rfl)))
        refine VOps.nil ⟨rfl, (h - i).toNat, by omega, i, h, by omega, by omega, by omega, rfl, by simp [Fr.only], rfl, hl, hg'⟩
    · have : i = j := by omega
      subst this
      refine VW.seq (VW.seq (VW.reg ?_))
      repeat first
        | (apply VOps.rd; (focus (first | exact rfl | (simp [Fr.only, argsF, *]; done))); (focus (exact rfl)))
        | (apply VOps.sk; (focus (simp [Fr.only, argsF, *]; done)))
        | (apply VOps.rd; (focus (first | exact rfl | (simp [Fr.only, argsF, *]; done))); (focus (simp [Fr.only, argsF, *]; first | done | exact rfl)))
      refine VOps.nil ⟨rfl, ?_⟩
      refine VW.condF (by simp [Fr.only, argsF, *]) (VW.exit ?_)
      simp only [then_normal, then_ret, then_exit, inB_normal, inB_ret, inB_exit, reduceIte, Nat.reduceEqDiff]
      refine VW.seq (VW.seq (VW.reg ?_))
      repeat first
        | (apply VOps.rd; (focus (first | exact rfl | (simp [Fr.only, argsF, *]; done))); (focus (exact rfl)))
        | (apply VOps.sk; (focus (simp [Fr.only, argsF, *]; done)))
        | (apply VOps.rd; (focus (first | exact rfl | (simp [Fr.only, argsF, *]; done))); (focus (simp [Fr.only, argsF, *]; first | done | exact rfl)))
      refine VOps.nil ⟨rfl, ?_⟩
      refine VW.block ?_
      refine VW.loop (fun k F' H' => ∃ (q : Int), i ≤ q ∧ q ≤ m ∧ k = (q - i).toNat ∧ F' = [(0, .sl (some ⟨b, 0, 0⟩) n c), (14, .int .i64 i), (17, .int .i64 q)] ∧ H' = Ar H b t md n (ins f m.toNat q.toNat)) (m - i).toNat
        ⟨m, by omega, by omega, rfl, by simp [Fr.only, argsF, *], by rw [ins_same]⟩ ?_
      rintro k F' H' ⟨q, hxq, hqi, rfl, rfl, rfl⟩
      by_cases hq : i < q
      · refine VW.seq (VW.seq (VW.reg ?_))
        repeat first
          | (apply VOps.rd; (focus (first | exact rfl | (simp [Fr.only, argsF, *]; done))); (focus (exact rfl)))
          | (apply VOps.sk; (focus (simp [Fr.only, argsF, *]; done)))
          | (apply VOps.rd; (focus (first | exact rfl | (simp [Fr.only, argsF, *]; done))); (focus (simp [Fr.only, argsF, *]; first | done | exact rfl)))
        refine VOps.nil ⟨rfl, ?_⟩
        refine VW.condT (by simp [Fr.only, argsF, *]) (VW.skip ?_)
        obtain ⟨u, hu, hu0, hun, hux⟩ : ∃ u, IntKind.i64.wrap (q - 1) = u ∧ 0 ≤ u ∧ u < n ∧ Hid (u = q - 1) := ⟨q - 1, wrap_id (by omega) (by omega), by omega, by omega, rfl⟩
        have hq0 : 0 ≤ q := by omega
        have hqn : q < n := by omega
        generalize hgg : ins f m.toNat q.toNat = g at *
        have p1 := Ar.ixp (t := t) (md := md) (f := g) hb (k := q.toNat) (n := n) (by omega)
        have p2 := Ar.ixp (t := t) (md := md) (f := g) hb (k := u.toNat) (n := n) (by omega)
        have d1 := Ar.ld (t := t) (md := md) (f := g) hb (k := q.toNat) (n := n) (by omega)
        have d2 := Ar.ld (t := t) (md := md) (f := g) hb (k := u.toNat) (n := n) (by omega)
        obtain ⟨s1, s2⟩ := Ar.swp2 (t := t) (f := g) hb hm (i := q.toNat) (j := u.toNat) (n := n) (by omega) (by omega)
        have p3 := Ar.ixp (t := t) (md := md) (f := fun z => if z = q.toNat then g u.toNat else g z) hb (k := u.toNat) (n := n) (by omega)
        have hfin : Hid (Ar H b t md n (swp g q.toNat u.toNat) = Ar H b t md n (ins f m.toNat (q - 1).toNat)) := by
          have := hux.out
          unfold Hid
          rw [← hgg, show u.toNat = (q - 1).toNat by omega, show q.toNat = (q - 1).toNat + 1 by omega, ins_step (by omega)]
        clear hl hg hs1 hs2 hsep hD ih hgg
        generalize Ar H b t md n (fun z => if z = q.toNat then g u.toNat else g z) = G1 at *
        generalize Ar H b t md n (swp g q.toNat u.toNat) = G2 at *
        generalize Ar H b t md n g = G0 at *
        refine VW.seq (VW.block ?_)
        refine VW.dreg [G0, G1, G2] mixed rfl ?_
        repeat first
          | (apply VX.rdp; (focus (first | exact rfl | (simp [Fr.only, argsF, *]; done))); (focus (exact fun _ => rfl)))
          | (apply VX.sk1; (focus (simp [Fr.only, argsF, *]; done)))
          | (apply VX.skc; (focus (simp [Fr.only, argsF, *]; done)))
          | (apply VX.rdp; (focus (first | exact rfl | (simp [Fr.only, argsF, *]; done))); (focus (intro _; simp [Fr.only, argsF, *]; first | done | exact rfl)))
          | (apply VX.rda; (focus (first | exact rfl | (simp [Fr.only, argsF, *]; done))); (focus (exact rfl)); (focus (exact rfl)); (focus (simp [Fr.only, argsF, *]; first | done | exact rfl)))
          | (apply VX.rdb; (focus (first | exact rfl | (simp [Fr.only, argsF, *]; done))); (focus (exact rfl)); (focus (exact rfl)); (focus (exact rfl)); (focus (simp [Fr.only, argsF, *]; first | done | exact rfl)); (focus (simp [Fr.only, argsF, *]; first | done | exact rfl)))
          | (apply VX.ef1; (focus (first | exact rfl | (simp [Fr.only, argsF, *]; done))); (focus (exact rfl)); (focus (simp [Fr.only, argsF, *]; first | done | exact rfl | exact ⟨rfl, rfl⟩)))
        refine VX.nil ?_
        show VW _ _ _ _ [(0, .sl (some ⟨b, 0, 0⟩) n c), (14, .int .i64 i), (17, .int .i64 q)] _ _
        refine VW.reg ?_
        refine VOps.rd rfl rfl ?_
        refine VOps.rd rfl rfl ?_
        refine VOps.rd rfl rfl ?_
        have := hux.out
        refine VOps.nil ⟨rfl, (q - 1 - i).toNat, by omega, q - 1, by omega, by omega, rfl, ?_, hfin⟩
        simp [Fr.only, hu, this]
      · have hq' : q = i := by omega
        subst hq'
        refine VW.seq (VW.seq (VW.reg ?_))
        repeat first
          | (apply VOps.rd; (focus (first | exact rfl | (simp [Fr.only, argsF, *]; done))); (focus (exact rfl)))
          | (apply VOps.sk; (focus (simp [Fr.only, argsF, *]; done)))
          | (apply VOps.rd; (focus (first | exact rfl | (simp [Fr.only, argsF, *]; done))); (focus (simp [Fr.only, argsF, *]; first | done | exact rfl)))
        refine VOps.nil ⟨rfl, ?_⟩
        refine VW.condF (by simp [Fr.only, argsF, *]) (VW.exit ?_)
        simp only [then_normal, then_ret, then_exit, inB_normal, inB_ret, inB_exit, reduceIte, Nat.reduceEqDiff]
        refine VW.ret ⟨by simp, _, rfl, rfl, _, rfl, ?_, ?_⟩
        · rw [e1.out]
          refine ins_sorted hs1 (by omega) (by omega) hg ?_
          by_cases e : q.toNat = x.toNat
          · exact .inl e
          · exact .inr (hl _ (by omega) (by omega))
        · exact mx_ins (by omega) (by omega) (by omega)
  -- both are of two or more
  obtain ⟨s0, d, a1, a2, a3, a4, a5, a6, a7, a8⟩ := mid2 (i := x) (j := y) (by omega) (by omega) (by omega)
  refine VW.seq (VW.seq (VW.reg ?_))
  repeat first
    | (apply VOps.rd; (focus (first | exact rfl | (simp [Fr.only, argsF, *]; done))); (focus (exact rfl)))
    | (apply VOps.sk; (focus (simp [Fr.only, argsF, *]; done)))
    | (apply VOps.rd; (focus (first | exact rfl | (simp [Fr.only, argsF, *]; done))); (focus (simp [Fr.only, argsF, *]; first | done | exact rfl)))
  refine VOps.nil ⟨rfl, ?_⟩
  refine VW.condF (by simp [Fr.only, argsF, *]) (VW.skip ?_)
  refine VW.seq (VW.reg ?_)
  repeat first
    | (apply VOps.rd; (focus (first | exact rfl | (simp [Fr.only, argsF, *]; done))); (focus (exact rfl)))
    | (apply VOps.sk; (focus (simp [Fr.only, argsF, *]; done)))
    | (apply VOps.rd; (focus (first | exact rfl | (simp [Fr.only, argsF, *]; done))); (focus (simp [Fr.only, argsF, *]; first | done | exact rfl)))
  refine VOps.nil ⟨rfl, ?_⟩
  have v3 := wrap_id (x := d + m) (by omega) (by omega)
  have v4 := wrap_id (x := d + m - y) (by omega) (by omega)
  have v5 := wrap_id (x := d + m - 1) (by omega) (by omega)
  have hd1 : 2 * d ≤ x + y := by have := a8.out; omega
  have hd2 : x + y ≤ 2 * d + 1 := by have := a8.out; omega
  refine VW.sub (G := [(0, .sl (some ⟨b, 0, 0⟩) n c), (1, .int .i64 x), (2, .int .i64 m), (3, .int .i64 y), (4, .fn fc caps), (18, .int .i64 d)]) (by simp [Cov, Fr.only, argsF, *]) ?_
  clear a1 a2 a3 a4 v1 v2 c1 c2
  refine VW.seq (VW.reg ?_)
  repeat first
    | (apply VOps.rd; (focus (first | exact rfl | (simp [Fr.only, argsF, *]; done))); (focus (exact rfl)))
    | (apply VOps.sk; (focus (simp [Fr.only, argsF, *]; done)))
    | (apply VOps.rd; (focus (first | exact rfl | (simp [Fr.only, argsF, *]; done))); (focus (simp [Fr.only, argsF, *]; first | done | exact rfl)))
  refine VOps.nil ⟨rfl, ?_⟩
  refine VW.seq (VW.reg ?_)
  repeat first
    | (apply VOps.rd; (focus (first | exact rfl | (simp [Fr.only, argsF, *]; done))); (focus (exact rfl)))
    | (apply VOps.sk; (focus (simp [Fr.only, argsF, *]; done)))
    | (apply VOps.rd; (focus (first | exact rfl | (simp [Fr.only, argsF, *]; done))); (focus (simp [Fr.only, argsF, *]; first | done | exact rfl)))
  refine VOps.nil ⟨rfl, ?_⟩
  refine VW.seq (VW.seq (VW.reg ?_))
  repeat first
    | (apply VOps.rd; (focus (first | exact rfl | (simp [Fr.only, argsF, *]; done))); (focus (exact rfl)))
    | (apply VOps.sk; (focus (simp [Fr.only, argsF, *]; done)))
    | (apply VOps.rd; (focus (first | exact rfl | (simp [Fr.only, argsF, *]; done))); (focus (simp [Fr.only, argsF, *]; first | done | exact rfl)))
  refine VOps.nil ⟨rfl, ?_⟩
  obtain ⟨lo, hi, hlo, hhi⟩ : ∃ lo hi : Int, Hid (lo = if d < m then d + m - y else x) ∧ Hid (hi = if d < m then d else m) := ⟨_, _, rfl, rfl⟩
  refine VW.mono (Q := fun e F2 Hx => e = .normal ∧ Cov [(0, .sl (some ⟨b, 0, 0⟩) n c), (1, .int .i64 x), (2, .int .i64 m), (3, .int .i64 y), (4, .fn fc caps), (18, .int .i64 d), (19, .int .i64 (d + m)), (20, .int .i64 lo), (21, .int .i64 hi)] F2 ∧ Hx = Ar H b t md n f) ?_ ?_
  · clear hs1 hs2 hsep hD ih hd1 hd2
    by_cases hdm : d < m
    · rw [hlo.out, hhi.out, if_pos hdm, if_pos hdm]
      refine VW.condT (by simp [Fr.only, argsF, *]) ?_
      refine VW.seq (VW.reg ?_)
      repeat first
        | (apply VOps.rd; (focus (first | exact rfl | (simp [Fr.only, argsF, *]; done))); (focus (exact rfl)))
        | (apply VOps.sk; (focus (simp [Fr.only, argsF, *]; done)))
        | (apply VOps.rd; (focus (first | exact rfl | (simp [Fr.only, argsF, *]; done))); (focus (simp [Fr.only, argsF, *]; first | done | exact rfl)))
      refine VOps.nil ⟨rfl, ?_⟩
      refine VW.reg ?_
      repeat first
        | (apply VOps.rd; (focus (first | exact rfl | (simp [Fr.only, argsF, *]; done))); (focus (exact rfl)))
        | (apply VOps.sk; (focus (simp [Fr.only, argsF, *]; done)))
        | (apply VOps.rd; (focus (first | exact rfl | (simp [Fr.only, argsF, *]; done))); (focus (simp [Fr.only, argsF, *]; first | done | exact rfl)))
      refine VOps.nil ⟨rfl, rfl, by simp [Cov, Fr.only, argsF, *], rfl⟩
    · rw [hlo.out, hhi.out, if_neg hdm, if_neg hdm]
      refine VW.condF (by simp [Fr.only, argsF, *]) ?_
      refine VW.seq (VW.reg ?_)
      repeat first
        | (apply VOps.rd; (focus (first | exact rfl | (simp [Fr.only, argsF, *]; done))); (focus (exact rfl)))
        | (apply VOps.sk; (focus (simp [Fr.only, argsF, *]; done)))
        | (apply VOps.rd; (focus (first | exact rfl | (simp [Fr.only, argsF, *]; done))); (focus (simp [Fr.only, argsF, *]; first | done | exact rfl)))
      refine VOps.nil ⟨rfl, ?_⟩
      refine VW.reg ?_
      repeat first
        | (apply VOps.rd; (focus (first | exact rfl | (simp [Fr.only, argsF, *]; done))); (focus (exact rfl)))
        | (apply VOps.sk; (focus (simp [Fr.only, argsF, *]; done)))
        | (apply VOps.rd; (focus (first | exact rfl | (simp [Fr.only, argsF, *]; done))); (focus (simp [Fr.only, argsF, *]; first | done | exact rfl)))
      refine VOps.nil ⟨rfl, rfl, by simp [Cov, Fr.only, argsF, *], rfl⟩
  rintro e F2 Hx ⟨rfl, hcov, rfl⟩
  have hlh : x ≤ lo ∧ lo ≤ hi ∧ hi ≤ m ∧ hi ≤ d ∧ d + m - y ≤ lo ∧ (lo = x ∨ lo + y = d + m) ∧ (hi = m ∨ (hi = d ∧ d < m)) := by
    have h1 := hlo.out
    have h2 := hhi.out
    by_cases hdm : d < m
    · rw [if_pos hdm] at h1 h2; omega
    · rw [if_neg hdm] at h1 h2; omega
  clear hlo hhi
  obtain ⟨l1, l2, l3, l4, l5, l6, l7⟩ := hlh
  obtain ⟨p, hp, hpp⟩ : ∃ p : Int, IntKind.i64.wrap (d + m - 1) = p ∧ Hid (p = d + m - 1) := ⟨_, v5, rfl⟩
  clear v5
  have hp1 : p ≤ d + m - 1 := by have := hpp.out; omega
  have hp2 : d + m - 1 ≤ p := by have := hpp.out; omega
  refine VW.sub hcov ?_
  refine VW.seq (VW.reg ?_)
  repeat first
    | (apply VOps.rd; (focus (first | exact rfl | (simp [Fr.only, argsF, *]; done))); (focus (exact rfl)))
    | (apply VOps.sk; (focus (simp [Fr.only, argsF, *]; done)))
    | (apply VOps.rd; (focus (first | exact rfl | (simp [Fr.only, argsF, *]; done))); (focus (simp [Fr.only, argsF, *]; first | done | exact rfl)))
  refine VOps.nil ⟨rfl, ?_⟩
  refine VW.seq ?_
  refine VW.mono (Q := fun e F2 Hx => e = .normal ∧ ∃ s : Int, lo ≤ s ∧ s ≤ hi ∧ Cov [(0, .sl (some ⟨b, 0, 0⟩) n c), (1, .int .i64 x), (2, .int .i64 m), (3, .int .i64 y), (4, .fn fc caps), (18, .int .i64 d), (19, .int .i64 (d + m)), (20, .int .i64 s)] F2 ∧ Hx = Ar H b t md n f ∧ Seen key f p.toNat lo.toNat hi.toNat s.toNat s.toNat) ?_ ?_
  · clear ih
    refine VW.block ?_
    refine VW.loop (fun k F' H' => ∃ (s r : Int), lo ≤ s ∧ s ≤ r ∧ r ≤ hi ∧ k = (r - s).toNat ∧ F' = [(0, .sl (some ⟨b, 0, 0⟩) n c), (1, .int .i64 x), (2, .int .i64 m), (3, .int .i64 y), (4, .fn fc caps), (18, .int .i64 d), (19, .int .i64 (d + m)), (20, .int .i64 s), (21, .int .i64 r), (22, .int .i64 p)] ∧ H' = Ar H b t md n f ∧ Seen key f p.toNat lo.toNat hi.toNat s.toNat r.toNat) (hi - lo).toNat
      ⟨lo, hi, by omega, by omega, by omega, rfl, by simp [Fr.only, argsF, *], rfl, fun z h1 h2 => by omega, fun z h1 h2 => by omega⟩ ?_
    rintro k F' H' ⟨s, r, h1, h2, h3, rfl, rfl, rfl, hsn⟩
    by_cases hsr : s < r
    · refine VW.seq (VW.seq (VW.reg ?_))
      repeat first
        | (apply VOps.rd; (focus (first | exact rfl | (simp [Fr.only, argsF, *]; done))); (focus (exact rfl)))
        | (apply VOps.sk; (focus (simp [Fr.only, argsF, *]; done)))
        | (apply VOps.rd; (focus (first | exact rfl | (simp [Fr.only, argsF, *]; done))); (focus (simp [Fr.only, argsF, *]; first | done | exact rfl)))
      refine VOps.nil ⟨rfl, ?_⟩
      refine VW.condT (by simp [Fr.only, argsF, *]) (VW.skip ?_)
      obtain ⟨s1, q, b1, b2, b3, b4, b5, b6, b7, b8⟩ := mid2 (i := s) (j := r) (by omega) hsr (by omega)
      refine VW.block (VW.seq (VW.reg ?_))
      repeat first
        | (apply VOps.rd; (focus (first | exact rfl | (simp [Fr.only, argsF, *]; done))); (focus (exact rfl)))
        | (apply VOps.sk; (focus (simp [Fr.only, argsF, *]; done)))
        | (apply VOps.rd; (focus (first | exact rfl | (simp [Fr.only, argsF, *]; done))); (focus (simp [Fr.only, argsF, *]; first | done | exact rfl)))
      refine VOps.nil ⟨rfl, ?_⟩
      obtain ⟨u, hu, hu0, hun, hux⟩ : ∃ u, IntKind.i64.wrap (p - q) = u ∧ 0 ≤ u ∧ u < n ∧ Hid (u = p - q) := ⟨p - q, wrap_id (by omega) (by omega), by omega, by omega, rfl⟩
      have hu1 := hux.out
      have d1 := Ar.ld (t := t) (md := md) (f := f) hb (k := q.toNat) (n := n) (by omega)
      have d2 := Ar.ld (t := t) (md := md) (f := f) hb (k := u.toNat) (n := n) (by omega)
      have p1 := Ar.ixp (t := t) (md := md) (f := f) hb (k := q.toNat) (n := n) (by omega)
      have p2 := Ar.ixp (t := t) (md := md) (f := f) hb (k := u.toNat) (n := n) (by omega)
      have hcall := hcall f (f u.toNat) (f q.toNat) (hD _ (by omega)) (hD _ (by omega))
      obtain ⟨r1, r2⟩ := hc.rng (f q.toNat) (hD _ (by omega))
      obtain ⟨r3, r4⟩ := hc.rng (f u.toNat) (hD _ (by omega))
      have hqn : q < n := by omega
      refine VW.seq ?_
      refine VW.mono (Q := fun e F2 Hx => e = .normal ∧ F2 = [(0, .sl (some ⟨b, 0, 0⟩) n c), (1, .int .i64 x), (2, .int .i64 m), (3, .int .i64 y), (4, .fn fc caps), (18, .int .i64 d), (19, .int .i64 (d + m)), (20, .int .i64 s), (21, .int .i64 r), (22, .int .i64 p), (23, .int .i64 q), (171, .bool (!decide (key (f q.toNat) - key (f u.toNat) < 0)))] ∧ Hx = Ar H b t md n f) ?_ ?_
      · clear hs1 hs2 hsep hD hsn hp1 hp2 hu1 hd1 hd2 l6 l7
        refine VW.dreg [Ar H b t md n f] mixed rfl ?_
        repeat first
          | (apply VX.rd1; (focus (first | exact rfl | (simp [Fr.only, argsF, *]; done))); (focus (exact rfl)))
          | (apply VX.sk1; (focus (simp [Fr.only, argsF, *]; done)))
          | (apply VX.rd1; (focus (first | exact rfl | (simp [Fr.only, argsF, *]; done))); (focus (simp [Fr.only, argsF, *]; first | done | exact rfl)))
        refine VX.call1 (by simp [*]) rfl rfl hcall ?_
        refine VX.rd1 rfl rfl ?_
        refine VX.rd1 rfl rfl ?_
        exact VX.nil ⟨rfl, by simp [Fr.only, *], rfl⟩
      rintro e F2 Hx ⟨rfl, rfl, rfl⟩
      have hsx := hsep q.toNat u.toNat (by omega) (by omega) (by omega) (by omega)
      have e2 : p.toNat - q.toNat = u.toNat := by omega
      refine VW.cond rfl (fun a => ?_) (fun a => ?_)
      · have a : ¬ key (f q.toNat) - key (f u.toNat) < 0 := by simpa using a
        have v6 := wrap_id (x := q + 1) (by omega) (by omega)
        have hnew : Seen key f p.toNat lo.toNat hi.toNat (q + 1).toNat r.toNat := by
          rw [show (q + 1).toNat = q.toNat + 1 by omega]
          exact hsn.low hs1 hs2 (by omega) (by omega) (by omega) (by omega) (by omega) (by rw [e2]; unfold lt; omega)
        refine VW.reg ?_
        refine VOps.rd rfl rfl ?_
        refine VOps.rd rfl rfl ?_
        refine VOps.rd rfl rfl ?_
        refine VOps.nil ⟨rfl, (r - (q + 1)).toNat, by omega, q + 1, r, by omega, by omega, by omega, rfl, by simp [Fr.only, v6], rfl, hnew⟩
      · have a : key (f q.toNat) - key (f u.toNat) < 0 := by simpa using a
        have hnew : Seen key f p.toNat lo.toNat hi.toNat s.toNat q.toNat := hsn.high hs1 hs2 (by omega) (by omega) (by omega) (by omega) (by omega) (by rw [e2]; unfold lt; omega)
        refine VW.reg ?_
        refine VOps.rd rfl rfl ?_
        refine VOps.rd rfl rfl ?_
        refine VOps.nil ⟨rfl, (q - s).toNat, by omega, s, q, by omega, by omega, by omega, rfl, by simp [Fr.only], rfl, hnew⟩
    · have : s = r := by omega
      subst this
      refine VW.seq (VW.seq (VW.reg ?_))
      repeat first
        | (apply VOps.rd; (focus (first | exact rfl | (simp [Fr.only, argsF, *]; done))); (focus (exact rfl)))
        | (apply VOps.sk; (focus (simp [Fr.only, argsF, *]; done)))
        | (apply VOps.rd; (focus (first | exact rfl | (simp [Fr.only, argsF, *]; done))); (focus (simp [Fr.only, argsF, *]; first | done | exact rfl)))
      refine VOps.nil ⟨rfl, ?_⟩
      refine VW.condF (by simp [Fr.only, argsF, *]) (VW.exit ?_)
      simp only [then_normal, then_ret, then_exit, inB_normal, inB_ret, inB_exit, reduceIte, Nat.reduceEqDiff]
      exact ⟨trivial, s, h1, h3, by simp [Cov, Fr.only], trivial, hsn⟩
  rintro e F2 Hx ⟨rfl, s, q1, q2, hcov, rfl, hsn⟩
  refine VW.sub hcov ?_
  obtain ⟨e, he, hee⟩ : ∃ e : Int, IntKind.i64.wrap (d + m - s) = e ∧ Hid (e = d + m - s) := ⟨_, wrap_id (by omega) (by omega), rfl⟩
  have he1 := hee.out
  obtain ⟨k1, k2⟩ := hsn.done (d := d.toNat) hs1 hs2 (by omega) (by omega) (by omega) (by omega) (by omega) (by omega) (by omega) e.toNat (by omega) (by omega) (by omega)
  obtain ⟨m1, m2, m3, m4, m5, m6, m7⟩ := rot_main (s := s.toNat) (e := e.toNat) (d := d.toNat) hs1 hs2 hsep (by omega) (by omega) (by omega) (by omega) (by omega) k1 k2
  have mx1 : Mx f (rot f s.toNat m.toNat e.toNat) x.toNat y.toNat := (mx_rot (by omega) (by omega)).widen (by omega) (by omega)
  have hDg := mx1.dom (n := n) (by omega) hD
  clear hsn hs1 hs2 hsep k1 k2 hcov hp hpp hp1 hp2 v3 v4
  refine VW.seq (VW.reg ?_)
  refine VOps.rd rfl rfl ?_
  refine VOps.rd rfl rfl ?_
  refine VOps.rd rfl rfl ?_
  refine VOps.rd rfl rfl ?_
  refine VOps.nil ⟨rfl, ?_⟩
  rw [he]
  show VW _ _ _ _ [(0, .sl (some ⟨b, 0, 0⟩) n c), (1, .int .i64 x), (2, .int .i64 m), (3, .int .i64 y), (4, .fn fc caps), (18, .int .i64 d), (20, .int .i64 s), (24, .int .i64 e)] _ _
  -- the rotation
  refine VW.seq (VW.seq ?_)
  refine VW.mono (Q := fun ex F2 Hx => ex = .normal ∧ F2 = [(0, .sl (some ⟨b, 0, 0⟩) n c), (1, .int .i64 x), (2, .int .i64 m), (3, .int .i64 y), (4, .fn fc caps), (18, .int .i64 d), (20, .int .i64 s), (24, .int .i64 e), (185, .bool (decide (s < m ∧ m < e)))] ∧ Hx = Ar H b t md n f) ?_ ?_
  · clear ih m1 m2 m3 m4 m5 m6 m7 mx1 hDg hD he1 hd1 hd2 l6 l7
    refine VW.reg ?_
    by_cases z1 : s < m
    · repeat first
        | (apply VOps.rd; (focus (first | exact rfl | (simp [Fr.only, argsF, *]; done))); (focus (exact rfl)))
        | (apply VOps.sk; (focus (simp [Fr.only, argsF, *]; done)))
        | (apply VOps.rd; (focus (first | exact rfl | (simp [Fr.only, argsF, *]; done))); (focus (simp [Fr.only, argsF, *]; first | done | exact rfl)))
      exact VOps.nil ⟨rfl, rfl, by simp [Fr.only, *], rfl⟩
    · repeat first
        | (apply VOps.rd; (focus (first | exact rfl | (simp [Fr.only, argsF, *]; done))); (focus (exact rfl)))
        | (apply VOps.sk; (focus (simp [Fr.only, argsF, *]; done)))
        | (apply VOps.rd; (focus (first | exact rfl | (simp [Fr.only, argsF, *]; done))); (focus (simp [Fr.only, argsF, *]; first | done | exact rfl)))
      exact VOps.nil ⟨rfl, rfl, by simp [Fr.only, *], rfl⟩
  rintro ex F2 Hx ⟨rfl, rfl, rfl⟩
  refine VW.mono (Q := fun ex F2 Hx => ex = .normal ∧ Cov [(0, .sl (some ⟨b, 0, 0⟩) n c), (1, .int .i64 x), (3, .int .i64 y), (4, .fn fc caps), (18, .int .i64 d), (20, .int .i64 s), (24, .int .i64 e)] F2 ∧ Hx = Ar H b t md n (rot f s.toNat m.toNat e.toNat)) ?_ ?_
  · refine VW.cond rfl (fun a => ?_) (fun a => ?_)
    · have a := of_decide_eq_true a
      refine VW.reg ?_
      repeat refine VOps.rd rfl rfl ?_
      refine VOps.call rfl rfl rfl ((rot59 (t := t) (f := f) (c := c) (cmp := .fn fc caps) (x := s) (m := m) (y := e) hb hm hn (by omega) (by omega) (by omega) (by omega)).mono ?_)
      rintro r H2 ⟨rfl, rfl⟩
      exact VOps.nil ⟨rfl, rfl, by simp [Cov, Fr.only], rfl⟩
    · have a := of_decide_eq_false a
      refine VW.skip ⟨rfl, by simp [Cov], ?_⟩
      by_cases z : s = m
      · subst z; rw [rot_nil1]
      · have : m = e := by omega
        rw [this, rot_nil2]
  rintro ex F2 Hx ⟨rfl, hcov, rfl⟩
  refine VW.sub hcov ?_
  clear hcov
  generalize rot f s.toNat m.toNat e.toNat = g0 at *
  -- the first half
  refine VW.seq (VW.seq ?_)
  refine VW.mono (Q := fun ex F2 Hx => ex = .normal ∧ F2 = [(0, .sl (some ⟨b, 0, 0⟩) n c), (1, .int .i64 x), (3, .int .i64 y), (4, .fn fc caps), (18, .int .i64 d), (20, .int .i64 s), (24, .int .i64 e), (199, .bool (decide (x < s ∧ s < d)))] ∧ Hx = Ar H b t md n g0) ?_ ?_
  · clear ih m1 m2 m3 m4 m5 m6 m7 mx1 hDg hD he1 hd1 hd2 l6 l7
    refine VW.reg ?_
    by_cases z1 : x < s
    · repeat first
        | (apply VOps.rd; (focus (first | exact rfl | (simp [Fr.only, argsF, *]; done))); (focus (exact rfl)))
        | (apply VOps.sk; (focus (simp [Fr.only, argsF, *]; done)))
        | (apply VOps.rd; (focus (first | exact rfl | (simp [Fr.only, argsF, *]; done))); (focus (simp [Fr.only, argsF, *]; first | done | exact rfl)))
      exact VOps.nil ⟨rfl, rfl, by simp [Fr.only, *], rfl⟩
    · repeat first
        | (apply VOps.rd; (focus (first | exact rfl | (simp [Fr.only, argsF, *]; done))); (focus (exact rfl)))
        | (apply VOps.sk; (focus (simp [Fr.only, argsF, *]; done)))
        | (apply VOps.rd; (focus (first | exact rfl | (simp [Fr.only, argsF, *]; done))); (focus (simp [Fr.only, argsF, *]; first | done | exact rfl)))
      exact VOps.nil ⟨rfl, rfl, by simp [Fr.only, *], rfl⟩
  rintro ex F2 Hx ⟨rfl, rfl, rfl⟩
  refine VW.mono (Q := fun ex F2 Hx => ex = .normal ∧ Cov [(0, .sl (some ⟨b, 0, 0⟩) n c), (3, .int .i64 y), (4, .fn fc caps), (18, .int .i64 d), (24, .int .i64 e)] F2 ∧ ∃ g1, Hx = Ar H b t md n g1 ∧ Srt key g1 x.toNat d.toNat ∧ Mx g0 g1 x.toNat d.toNat) ?_ ?_
  · refine VW.cond rfl (fun a => ?_) (fun a => ?_)
    · have a := of_decide_eq_true a
      refine VW.reg ?_
      repeat refine VOps.rd rfl rfl ?_
      refine VOps.call rfl rfl rfl ((ih (f := g0) (x := x) (m := s) (y := d) (by omega) (by omega) (by omega) (by omega) (by omega) hDg m1 m2 m3).mono ?_)
      rintro r H2 ⟨rfl, g1, rfl, w1, w2⟩
      exact VOps.nil ⟨rfl, rfl, by simp [Cov, Fr.only], g1, rfl, w1, w2⟩
    · have a := of_decide_eq_false a
      refine VW.skip ⟨rfl, by simp [Cov], g0, rfl, ?_, .refl _ _ _⟩
      by_cases z : s = x
      · rw [z] at m2; exact m2
      · have : s = d := by omega
        rw [this] at m1; exact m1
  rintro ex F2 Hx ⟨rfl, hcov, g1, rfl, w1, w2⟩
  refine VW.sub hcov ?_
  clear hcov
  have hDg1 := w2.dom (n := n) (by omega) hDg
  have n4 : Srt key g1 d.toNat e.toNat := fun i j h1 h2 h3 => by rw [w2.2.2 i (by omega), w2.2.2 j (by omega)]; exact m4 i j h1 h2 h3
  have n5 : Srt key g1 e.toNat y.toNat := fun i j h1 h2 h3 => by rw [w2.2.2 i (by omega), w2.2.2 j (by omega)]; exact m5 i j h1 h2 h3
  have n6 : So.Sep g1 d.toNat e.toNat y.toNat := fun i j h1 h2 h3 h4 => by rw [w2.2.2 i (by omega), w2.2.2 j (by omega)]; exact m6 i j h1 h2 h3 h4
  -- the second half
  refine VW.seq ?_
  refine VW.mono (Q := fun ex F2 Hx => ex = .normal ∧ F2 = [(0, .sl (some ⟨b, 0, 0⟩) n c), (3, .int .i64 y), (4, .fn fc caps), (18, .int .i64 d), (24, .int .i64 e), (213, .bool (decide (d < e ∧ e < y)))] ∧ Hx = Ar H b t md n g1) ?_ ?_
  · clear ih m1 m2 m3 m4 m5 m6 m7 mx1 hDg hD he1 hd1 hd2 l6 l7 n4 n5 n6 w1 w2 hDg1
    refine VW.reg ?_
    by_cases z1 : d < e
    · repeat first
        | (apply VOps.rd; (focus (first | exact rfl | (simp [Fr.only, argsF, *]; done))); (focus (exact rfl)))
        | (apply VOps.sk; (focus (simp [Fr.only, argsF, *]; done)))
        | (apply VOps.rd; (focus (first | exact rfl | (simp [Fr.only, argsF, *]; done))); (focus (simp [Fr.only, argsF, *]; first | done | exact rfl)))
      exact VOps.nil ⟨rfl, rfl, by simp [Fr.only, *], rfl⟩
    · repeat first
        | (apply VOps.rd; (focus (first | exact rfl | (simp [Fr.only, argsF, *]; done))); (focus (exact rfl)))
        | (apply VOps.sk; (focus (simp [Fr.only, argsF, *]; done)))
        | (apply VOps.rd; (focus (first | exact rfl | (simp [Fr.only, argsF, *]; done))); (focus (simp [Fr.only, argsF, *]; first | done | exact rfl)))
      exact VOps.nil ⟨rfl, rfl, by simp [Fr.only, *], rfl⟩
  rintro ex F2 Hx ⟨rfl, rfl, rfl⟩
  have fin : ∀ g2, Srt key g2 d.toNat y.toNat → Mx g1 g2 d.toNat y.toNat → Srt key g2 x.toNat y.toNat ∧ Mx f g2 x.toNat y.toNat := fun g2 u1 u2 =>
    ⟨Srt.join (by omega) (by omega) m7 w2 u2 w1 u1, mx1.trans ((w2.widen (Nat.le_refl _) (by omega)).trans (u2.widen (by omega) (Nat.le_refl _)))⟩
  refine VW.cond rfl (fun a => ?_) (fun a => ?_)
  · have a := of_decide_eq_true a
    refine VW.reg ?_
    repeat refine VOps.rd rfl rfl ?_
    refine VOps.call rfl rfl rfl ((ih (f := g1) (x := d) (m := e) (y := y) (by omega) (by omega) (by omega) (by omega) (by omega) hDg1 n4 n5 n6).mono ?_)
    rintro r H2 ⟨rfl, g2, rfl, u1, u2⟩
    exact VOps.nil ⟨rfl, by simp, _, rfl, rfl, g2, rfl, fin g2 u1 u2⟩
  · have a := of_decide_eq_false a
    refine VW.skip ⟨by simp, _, rfl, rfl, g1, rfl, fin g1 ?_ (.refl _ _ _)⟩
    by_cases z : e = d
    · rw [z] at n5; exact n5
    · have : e = y := by omega
      rw [this] at n4; exact n4
end
end Go.Proofs.Ytlclbfkdaemilaa
