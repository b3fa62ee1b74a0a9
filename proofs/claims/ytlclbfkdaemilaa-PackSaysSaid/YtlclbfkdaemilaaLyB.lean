/- isRow of the document over the canonical heap. -/
import Derived.Test.YtlclbfkdaemilaaLyA
namespace Go.Proofs.Ytlclbfkdaemilaa
set_option linter.unusedSimpArgs false
set_option linter.unusedVariables false
open Go Go.Vm Go.Proofs
set_option maxRecDepth 100000
set_option maxHeartbeats 1000000

section
variable {H : Hp} {p : Option PA} {c : Nat} {l : Edges}
abbrev seenS (seen : Nat → Bool) : List (List VV) := (List.range 256).map fun k => [VV.bool (seen k)]
theorem isRow34 (h : Sl H p 2 (edgeEs l)) (hl : l.length ≤ maxLen) : FnV Try.prog 34 [.sl p l.length c] H fun r H' => r = .bool (isRowS l) ∧ H' = H := by
  refine FnV.calm rfl ?_
  refine FnV.enterRow ok34 (by show 1 ≤ 46; decide) fun B => ?_
  dsimp only [w34]
  have hmx : maxLen = 9223372036854775807 := rfl
  refine VW.seq (VW.reg ?_)
  refine VOps.rd rfl rfl ?_
  refine VOps.nil ⟨rfl, ?_⟩
  by_cases hbig : 256 < (l.length : Int)
  · have hS : isRowS l = false := by
      cases hc : isRowS l with
      | false => rfl
      | true => have := isRow_len hc; omega
    refine VW.seq (VW.seq (VW.reg ?_))
    repeat first
      | (apply VOps.rd; (focus (first | exact rfl | (simp [Fr.only, argsF, *]; done))); (focus (exact rfl)))
      | (apply VOps.sk; (focus (simp [Fr.only, argsF, *]; done)))
      | (apply VOps.rd; (focus (first | exact rfl | (simp [Fr.only, argsF, *]; done))); (focus (simp [Fr.only, argsF, *]; first | done | exact rfl)))
    refine VOps.nil ⟨rfl, ?_⟩
    refine VW.condT (by simp [Fr.only, argsF, *]) (VW.seq (VW.reg ?_))
    refine VOps.rd rfl rfl ?_
    refine VOps.nil ⟨rfl, VW.ret ⟨.inl rfl, .bool false, rfl, by rw [hS], .refl _⟩⟩
  refine VW.seq (VW.seq (VW.reg ?_))
  repeat first
    | (apply VOps.rd; (focus (first | exact rfl | (simp [Fr.only, argsF, *]; done))); (focus (exact rfl)))
    | (apply VOps.sk; (focus (simp [Fr.only, argsF, *]; done)))
    | (apply VOps.rd; (focus (first | exact rfl | (simp [Fr.only, argsF, *]; done))); (focus (simp [Fr.only, argsF, *]; first | done | exact rfl)))
  refine VOps.nil ⟨rfl, VW.condF (by simp [Fr.only, argsF, *]) (VW.skip ?_)⟩
  have h0 : (H ++ [Blk.row 4 .own (seenS fun _ => false)])[H.length]? = some (Blk.row 4 .own (seenS fun _ => false)) := by simp
  have hx : Ext H (H ++ [Blk.row 4 .own (seenS fun _ => false)]) := .app _ _
  have hrep : List.replicate 256 [VV.bool false] = seenS fun _ => false := by kernel_rfl
  refine VW.seq (VW.reg ?_)
  refine VOps.ef (v := .sl (some ⟨H.length, 0, 0⟩) 256 256) (H' := H ++ [Blk.row 4 .own (seenS fun _ => false)]) rfl (by simp [hrep]) ?_
  refine VOps.rd rfl rfl ?_
  refine VOps.nil ⟨rfl, ?_⟩
  generalize H ++ [Blk.row 4 .own (seenS fun _ => false)] = H1 at *
  refine VW.seq (VW.seq (VW.reg ?_))
  refine VOps.rd rfl rfl ?_
  refine VOps.nil ⟨rfl, ?_⟩
  show VW _ _ _ _ [(0, .sl p l.length c), (3, .sl (some ⟨H.length, 0, 0⟩) 256 256), (4, .int .i64 0)] _ _
  refine VW.block ?_
  refine VW.loop (fun k F' H' => ∃ (i : Int) (seen : Nat → Bool), 0 ≤ i ∧ i ≤ l.length ∧ k = l.length - i.toNat ∧ F' = [(0, .sl p l.length c), (3, .sl (some ⟨H.length, 0, 0⟩) 256 256), (4, .int .i64 i)] ∧
      Ext H H' ∧ H'[H.length]? = some (Blk.row 4 .own (seenS seen)) ∧ isRowS l = scan seen (l.drop i.toNat)) l.length
      ⟨0, _, by omega, by omega, rfl, rfl, hx, h0, rfl⟩ ?_
  clear hx h0 hrep
  rintro k F' H2 ⟨i, seen, i0, il, rfl, rfl, hx, h0, hS⟩
  by_cases hil : i < l.length
  · rw [scan_step (by omega)] at hS
    obtain ⟨q, rfl, hq1, hq2, hq3, hq4⟩ := sl_edge (hx.sl h) (k := i.toNat) (by omega)
    have hq5 : ld H2 ⟨(elp (some q) i.toNat).blk, (elp (some q) i.toNat).idx, 0⟩ = some (.int .i64 (l.getD i.toNat (0, 0)).1) := hq2
    generalize (l.getD i.toNat (0, 0)).1 = sy at *
    generalize (l.getD i.toNat (0, 0)).2 = to at *
    generalize elp (some q) i.toNat = pe at *
    have hv := wrap_id (x := i + 1) (by omega) (by omega)
    have bad : ∀ F, isRowS l = false → Cov [(3, VV.sl (some ⟨H.length, 0, 0⟩) 256 256), (38, .bool true)] F → VW Try.prog B 46 (VC.cond 38 (VC.seq (VC.reg [VI.rd 2 none (VOp.mv (Od.c (VV.bool false)))] [2]) (VC.ret)) (VC.skip)) F H2 (fun e F2 Hx => (e = .ret ∧ F2.get 2 = some (.bool (isRowS l)) ∧ Ext H Hx) ∨ (e = .normal ∧ F2 = [(0, VV.sl (some q) l.length c), (3, .sl (some ⟨H.length, 0, 0⟩) 256 256), (4, .int .i64 i), (38, .bool false)] ∧ Hx = H2 ∧ 0 ≤ sy ∧ sy < 256 ∧ seen sy.toNat = false)) := by
      intro F hb hc
      refine VW.condT hc.2.1 (VW.seq (VW.reg ?_))
      refine VOps.rd rfl rfl ?_
      refine VOps.nil ⟨rfl, VW.ret (.inl ⟨rfl, ?_, hx⟩)⟩
      rw [hb]; rfl
    refine VW.seq (VW.seq (VW.reg ?_))
    repeat first
      | (apply VOps.rd; (focus (first | exact rfl | (simp [Fr.only, argsF, *]; done))); (focus (exact rfl)))
      | (apply VOps.sk; (focus (simp [Fr.only, argsF, *]; done)))
      | (apply VOps.rd; (focus (first | exact rfl | (simp [Fr.only, argsF, *]; done))); (focus (simp [Fr.only, argsF, *]; first | done | exact rfl)))
    refine VOps.nil ⟨rfl, VW.condT (by simp [Fr.only, argsF, *]) (VW.skip ?_)⟩
    have hix : 0 ≤ sy → sy < 256 → ixp H2 ⟨H.length, 0, 0⟩ sy.toNat 1 = some ⟨H.length, sy.toNat, 0⟩ := fun g1 g2 => by
      have e : seenS seen = [VV.bool (seen 0)] :: ((List.range 255).map fun k => [VV.bool (seen (k + 1))]) := by
        show (List.range (255 + 1)).map _ = _
        rw [List.range_succ_eq_map, List.map_cons, List.map_map]; rfl
      rw [e] at h0
      simp [ixp, eszOf, h0, padd]
    refine VW.seq (VW.block (VW.seq ?_))
    refine VW.mono (Q := fun e F2 Hx => (e = .ret ∧ F2.get 2 = some (.bool (isRowS l)) ∧ Ext H Hx) ∨ (e = .normal ∧ F2 = [(0, VV.sl (some q) l.length c), (3, .sl (some ⟨H.length, 0, 0⟩) 256 256), (4, .int .i64 i), (38, .bool false)] ∧ Hx = H2 ∧ 0 ≤ sy ∧ sy < 256 ∧ seen sy.toNat = false)) ?_ ?_
    · refine VW.seq (VW.reg ?_)
      by_cases g1 : sy < 0
      · rw [if_pos g1] at hS
        have hbad := fun F => bad F hS
        clear bad hix
        repeat first
          | (apply VOps.rd; (focus (first | exact rfl | (simp [Fr.only, argsF, *]; done))); (focus (exact rfl)))
          | (apply VOps.sk; (focus (simp [Fr.only, argsF, *]; done)))
          | (apply VOps.rd; (focus (first | exact rfl | (simp [Fr.only, argsF, *]; done))); (focus (simp [Fr.only, argsF, *]; first | done | exact rfl)))
        exact VOps.nil ⟨rfl, hbad _ (by simp [Cov, Fr.only])⟩
      · by_cases g2 : 256 ≤ sy
        · rw [if_neg g1, if_pos g2] at hS
          have hbad := fun F => bad F hS
          clear bad hix
          repeat first
            | (apply VOps.rd; (focus (first | exact rfl | (simp [Fr.only, argsF, *]; done))); (focus (exact rfl)))
            | (apply VOps.sk; (focus (simp [Fr.only, argsF, *]; done)))
            | (apply VOps.rd; (focus (first | exact rfl | (simp [Fr.only, argsF, *]; done))); (focus (simp [Fr.only, argsF, *]; first | done | exact rfl)))
          exact VOps.nil ⟨rfl, hbad _ (by simp [Cov, Fr.only])⟩
        · rw [if_neg g1, if_neg g2] at hS
          have g3 : 0 ≤ sy := by omega
          have g4 : sy < 256 := by omega
          replace hix := hix g3 g4
          have hld : ld H2 ⟨H.length, sy.toNat, 0⟩ = some (.bool (seen sy.toNat)) := by
            have : sy.toNat < 256 := by omega
            simp [ld, h0, this]
          by_cases hse : seen sy.toNat = true
          · rw [hse, if_pos rfl] at hS
            rw [hse] at hld
            have hbad := fun F => bad F hS
            clear bad
            repeat first
              | (apply VOps.rd; (focus (first | exact rfl | (simp [Fr.only, argsF, *]; done))); (focus (exact rfl)))
              | (apply VOps.sk; (focus (simp [Fr.only, argsF, *]; done)))
              | (apply VOps.rd; (focus (first | exact rfl | (simp [Fr.only, argsF, *]; done))); (focus (simp [Fr.only, argsF, *]; first | done | exact rfl)))
            exact VOps.nil ⟨rfl, hbad _ (by simp [Cov, Fr.only])⟩
          · have hse2 : seen sy.toNat = false := by simpa using hse
            rw [hse2] at hld
            clear bad
            repeat first
              | (apply VOps.rd; (focus (first | exact rfl | (simp [Fr.only, argsF, *]; done))); (focus (exact rfl)))
              | (apply VOps.sk; (focus (simp [Fr.only, argsF, *]; done)))
              | (apply VOps.rd; (focus (first | exact rfl | (simp [Fr.only, argsF, *]; done))); (focus (simp [Fr.only, argsF, *]; first | done | exact rfl)))
            refine VOps.nil ⟨rfl, VW.condF (by simp [Fr.only]) (VW.skip (.inr ⟨rfl, by simp [Fr.only], rfl, g3, g4, hse2⟩))⟩
    rintro e F2 Hx (⟨rfl, h1, h2⟩ | ⟨rfl, rfl, rfl, g3, g4, g5⟩)
    · simp only [then_normal, then_ret, then_exit, inB_normal, inB_ret, inB_exit, reduceIte, Nat.reduceEqDiff]
      exact ⟨by simp, .bool (isRowS l), by simp [resV, resL, h1], rfl, h2⟩
    · rw [if_neg (by omega), if_neg (by omega), g5, if_neg (by simp)] at hS
      replace hix := hix g3 g4
      have hst : stc Hx ⟨H.length, sy.toNat, 0⟩ [.bool true] = some (Hx.set H.length (.row 4 .own (seenS fun k => if k = sy.toNat then true else seen k))) := by
        have hlt : sy.toNat < 256 := by omega
        have he : (seenS seen)[sy.toNat]? = some [VV.bool (seen sy.toNat)] := by simp [hlt]
        have hup : ((seenS seen).set sy.toNat [.bool true]) = seenS fun k => if k = sy.toNat then true else seen k := by
          apply List.ext_getElem?
          intro z
          by_cases e : sy.toNat = z
          · subst e
            rw [List.getElem?_set_self (by simpa using hlt)]
            simp [hlt]
          · rw [List.getElem?_set_ne e]
            have : z ≠ sy.toNat := fun h => e h.symm
            by_cases hz : z < 256
            · simp [hz, this]
            · simp [hz]
        simp only [stc, h0, he]
        rw [if_neg (by decide), if_pos (by simp [okCells, VV.cell])]
        simp only [upd, List.set_cons_zero, hup]
      clear bad
      have hx' := hx.set (i := H.length) (Nat.le_refl _) (.row 4 .own (seenS fun k => if k = sy.toNat then true else seen k))
      have h0' : (Hx.set H.length (.row 4 .own (seenS fun k => if k = sy.toNat then true else seen k)))[H.length]? = some (.row 4 .own (seenS fun k => if k = sy.toNat then true else seen k)) := by
        rw [List.getElem?_set_self (get_lt h0)]
      clear hx h0
      generalize Hx.set H.length (.row 4 .own (seenS fun k => if k = sy.toNat then true else seen k)) = H4 at *
      refine VW.reg ?_
      repeat first
        | (apply VOps.rd; (focus (first | exact rfl | (simp [Fr.only, argsF, *]; done))); (focus (exact rfl)))
        | (apply VOps.sk; (focus (simp [Fr.only, argsF, *]; done)))
        | (apply VOps.rd; (focus (first | exact rfl | (simp [Fr.only, argsF, *]; done))); (focus (simp [Fr.only, argsF, *]; first | done | exact rfl)))
        | (apply VOps.ef; (focus (first | exact rfl | (simp [Fr.only, argsF, *]; done))); (focus (simp [Fr.only, argsF, *]; first | done | exact rfl | exact ⟨rfl, rfl⟩)))
      refine VOps.nil ⟨rfl, ?_⟩
      refine VW.reg ?_
      refine VOps.rd rfl rfl ?_
      refine VOps.rd rfl rfl ?_
      refine VOps.rd rfl rfl ?_
      refine VOps.nil ⟨rfl, l.length - (i + 1).toNat, by omega, i + 1, _, by omega, by omega, rfl, by simp [Fr.only, hv], hx', h0', ?_⟩
      rw [hS, show (i + 1).toNat = i.toNat + 1 by omega]
  · have : i = l.length := by omega
    subst this
    rw [show ((l.length : Int)).toNat = l.length by omega, scan_end] at hS
    refine VW.seq (VW.seq (VW.reg ?_))
    repeat first
      | (apply VOps.rd; (focus (first | exact rfl | (simp [Fr.only, argsF, *]; done))); (focus (exact rfl)))
      | (apply VOps.sk; (focus (simp [Fr.only, argsF, *]; done)))
      | (apply VOps.rd; (focus (first | exact rfl | (simp [Fr.only, argsF, *]; done))); (focus (simp [Fr.only, argsF, *]; first | done | exact rfl)))
    refine VOps.nil ⟨rfl, VW.condF (by simp [Fr.only]) (VW.exit ?_)⟩
    simp only [then_normal, then_ret, then_exit, inB_normal, inB_ret, inB_exit, reduceIte, Nat.reduceEqDiff]
    refine VW.seq (VW.reg ?_)
    refine VOps.rd rfl rfl ?_
    refine VOps.nil ⟨rfl, VW.ret ⟨.inl rfl, .bool true, rfl, by rw [hS], hx⟩⟩
end
end Go.Proofs.Ytlclbfkdaemilaa
