/- Are two lists of texts the same? Which of so many? -/
import Derived.Test.YtfodpmekcddgpaaGreatDoorToI
namespace Go.Proofs.YtfodpmekcddgpaaGreatDoor
set_option linter.unusedSimpArgs false
set_option linter.unusedVariables false
open Go Go.Wm Go.Wm.To Go.Proofs Go.RowKit
set_option maxRecDepth 100000
set_option maxHeartbeats 4000000
namespace Tok
/-- two equal lists are found equal; nothing turns -/
theorem texts {H : Hp} {p q : Option PA} {l : List (List UInt8)} {c1 c2 : Nat} (hp : Sl H p 1 (strEs l)) (hq : Sl H q 1 (strEs l)) (hlen : l.length ≤ 4611686018427387904) :
    FnV Tryz.prog 13 [.sl p l.length c1, .sl q l.length c2] H fun r H' => r = .bool true ∧ H' = H := by
  refine FnV.enterRow ok13 (Nat.le_of_ble_eq_true rfl) fun B => ?_
  repeat first | (refine VOps.rd (x := .mv _) rfl (by first | exact rfl | assumption) ?_) | (refine VOps.rd rfl (by first | exact ev_cF rfl rfl (by first | exact rfl | (dsimp only [cmpF]; omega)) | exact rfl) ?_) | refine VOps.fin ?_ | refine VW.seq ?_ | refine VW.reg ?_ | refine VW.skip ?_ | refine VW.condF rfl ?_ | refine VW.block ?_
  refine VW.loop (fun n F H' => ∃ k : Nat, n = l.length - k ∧ k ≤ l.length ∧ Cov [(0, .sl p l.length c1), (1, .sl q l.length c2), (5, .int .i64 k)] F ∧ F.get dslot = none ∧ H' = H) l.length ⟨0, rfl, Nat.zero_le _, ⟨rfl, rfl, rfl, trivial⟩, rfl, rfl⟩ ?_
  rintro n F H' ⟨k, rfl, hk, hc, hd, rfl⟩
  refine VW.cov hc hd rfl ?_
  have hcst := cst1 H'
  by_cases hkl : k < l.length
  · have hl : l[k]? = some l[k] := List.getElem?_eq_getElem hkl
    generalize l[k] = y at hl
    have he : (strEs l)[((k : Nat) : Int).toNat]? = some [.str y] := by rw [Int.toNat_natCast, strEs_get, hl]; rfl
    have hle : l.length ≤ (strEs l).length := by rw [strEs_len]; exact Nat.le_refl _
    repeat first | (refine VOps.rd (x := .mv _) rfl (by first | exact rfl | assumption) ?_) | (refine VOps.rd rfl (by first | exact ev_cT rfl rfl (by first | exact rfl | (dsimp only [cmpT]; omega)) | exact rfl) ?_) | refine VOps.fin ?_ | refine VW.seq ?_ | refine VW.reg ?_ | refine VW.skip ?_ | refine VW.condT rfl ?_ | refine VW.block ?_
    refine VW.dreg [H'] mixed rfl ?_
    repeat (refine VX.rdc (by assumption) (x := .mv _) rfl (by first | exact rfl | assumption) ?_)
    refine VX.rdc hcst rfl (ev_ixa hp rfl rfl (by omega) (by omega) hle) ?_
    refine VX.rdc hcst rfl (ev_ld hp rfl he) ?_
    repeat (refine VX.rdc (by assumption) (x := .mv _) rfl (by first | exact rfl | assumption) ?_)
    refine VX.rdc hcst rfl (ev_ixa hq rfl rfl (by omega) (by omega) hle) ?_
    refine VX.rdc hcst rfl (ev_ld hq rfl he) ?_
    refine VX.rdc hcst rfl (ev_sneqF rfl rfl rfl) ?_
    repeat refine VX.fin rfl ?_
    repeat first | (refine VOps.rd (x := .mv _) rfl (by first | exact rfl | assumption) ?_) | refine VOps.rd rfl (ev_add2 rfl rfl (by omega)) ?_ | refine VOps.fin ?_ | refine VW.reg ?_ | refine VW.skip ?_ | refine VW.condF rfl ?_ | rw [then_normal]
    exact ⟨_, by omega, k + 1, rfl, by omega, ⟨rfl, rfl, by rw [Int.natCast_add]; rfl, trivial⟩, rfl, rfl⟩
  · repeat first | (refine VOps.rd (x := .mv _) rfl (by first | exact rfl | assumption) ?_) | (refine VOps.rd rfl (by first | exact ev_cF rfl rfl (by first | exact rfl | (dsimp only [cmpF]; omega)) | exact rfl) ?_) | refine VOps.fin ?_ | refine VW.seq ?_ | refine VW.reg ?_ | refine VW.exit ?_ | refine VW.ret ?_ | refine VW.condF rfl ?_
    exact ⟨.inl rfl, rfl, _, rfl, rfl, rfl⟩
def pickN (c : Int) (n : Nat) : Nat := ((if c < 0 then -(c + 1) else c) % n).toNat
theorem pick {H : Hp} {c : Int} {n : Nat} (h1 : -9223372036854775808 ≤ c) (h2 : c ≤ 9223372036854775807) (hn : 0 < n) (hn2 : n ≤ 4611686018427387904) : FnV Tryz.prog 15 [.int .i64 c, .int .i64 n] H fun r H' => r = .int .i64 (pickN c n) ∧ H' = H := by
  refine FnV.enterRow ok15 (Nat.le_of_ble_eq_true rfl) fun B => ?_
  have hrem : ∀ (E : Fr) (K : Gt) (d : Int), 0 ≤ d → E.get 10 = some (.int .i64 d) → E.get 11 = some (.int .i64 n) → (VOp.bin .rem (.t 10) (.t 11)).ev E K = some (.int .i64 ((d % n).toNat : Nat)) := fun E K d hd a1 a2 => by
    refine ev_bin (x := .t 10) (y := .t 11) (k := .i64) (a := d) (b := n) a1 a2 ?_
    have h0 : ¬ ((n : Int) = 0) := by omega
    have h3 : (((d % (n : Int)).toNat : Nat) : Int) = d % n := Int.toNat_of_nonneg (Int.emod_nonneg _ h0)
    simp only [iarith, h0, if_false]
    rw [h3, Int.tmod_eq_emod_of_nonneg hd]
  by_cases hc : c < 0
  · have hneg : wrapK .i64 (ineg (c + 1)) = -(c + 1) := by
      rw [wrapK_eq, ineg_eq]
      simp [IntKind.wrap, IntKind.bits, IntKind.signed]; omega
    repeat first | (refine VOps.rd (x := .mv _) rfl (by first | exact rfl | assumption) ?_) | (refine VOps.rd rfl (by first | exact ev_add2 rfl rfl (by omega) | exact ev_cT rfl rfl (by first | exact rfl | (dsimp only [cmpT]; omega)) | exact rfl) ?_) | refine VOps.fin ?_ | refine VW.seq ?_ | refine VW.reg ?_ | refine VW.condT rfl ?_
    rw [hneg]
    refine VOps.rd rfl (hrem _ _ _ (by omega) rfl rfl) ?_
    repeat first | (refine VOps.rd (x := .mv _) rfl (by first | exact rfl | assumption) ?_) | refine VOps.fin ?_ | refine VW.ret ?_
    refine ⟨.inl rfl, rfl, _, rfl, ?_, rfl⟩
    unfold pickN
    rw [if_pos hc]
  · repeat first | (refine VOps.rd (x := .mv _) rfl (by first | exact rfl | assumption) ?_) | refine VOps.rd rfl (ev_cF rfl rfl (by first | exact rfl | (dsimp only [cmpF]; omega))) ?_ | refine VOps.fin ?_ | refine VW.seq ?_ | refine VW.reg ?_ | refine VW.skip ?_ | refine VW.condF rfl ?_
    refine VOps.rd rfl (hrem _ _ _ (by omega) rfl rfl) ?_
    repeat first | (refine VOps.rd (x := .mv _) rfl (by first | exact rfl | assumption) ?_) | refine VOps.fin ?_ | refine VW.ret ?_
    refine ⟨.inl rfl, rfl, _, rfl, ?_, rfl⟩
    unfold pickN
    rw [if_neg hc]
theorem pickN_lt {c : Int} {n : Nat} (hn : 0 < n) : pickN c n < n := by
  unfold pickN
  have h0 : (0 : Int) < n := by omega
  have := Int.emod_lt_of_pos (if c < 0 then -(c + 1) else c) h0
  have := Int.emod_nonneg (if c < 0 then -(c + 1) else c) (show (n : Int) ≠ 0 by omega)
  omega
end Tok
end Go.Proofs.YtfodpmekcddgpaaGreatDoor
