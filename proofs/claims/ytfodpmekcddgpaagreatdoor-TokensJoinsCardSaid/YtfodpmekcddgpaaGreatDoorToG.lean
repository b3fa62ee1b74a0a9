/- IndexAny of the blanks and the quote. -/
import Derived.Test.YtfodpmekcddgpaaGreatDoorToF
namespace Go.Proofs.YtfodpmekcddgpaaGreatDoor
set_option linter.unusedSimpArgs false
set_option linter.unusedVariables false
open Go Go.Wm Go.Wm.To Go.Proofs Go.RowKit
set_option maxRecDepth 100000
set_option maxHeartbeats 4000000
namespace Tok
def nS (c : UInt8) : Bool := !isS c
def anyIx (s : List UInt8) : Int := if scan nS s 0 < s.length then scan nS s 0 else -1
theorem big {H : Hp} (n : Int) : FnV Tryz.prog 63 [.int .i64 n] H fun r H' => r = .bool (decide (8 < n)) ∧ H' = H := by
  refine FnV.enterRow ok63 (Nat.le_of_ble_eq_true rfl) fun B => ?_
  by_cases h : 8 < n
  · rw [decide_eq_true h]
    repeat first | refine VOps.sk rfl ?_ | (refine VOps.rd (x := .mv _) rfl (by first | exact rfl | assumption) ?_) | (refine VOps.rd rfl (by first | exact ev_add2 rfl rfl (by omega) | exact ev_sub2 rfl rfl (by omega) | exact ev_cT rfl rfl (by first | exact rfl | (dsimp only [cmpT]; omega)) | exact ev_cF rfl rfl (by first | exact rfl | (dsimp only [cmpF]; omega)) | exact ev_sT rfl rfl (by assumption) | exact ev_sF rfl rfl (by assumption) | exact ev_slst3 rfl rfl rfl (by omega) | exact ev_ixs rfl rfl (by omega) (by assumption) | exact rfl | assumption) ?_) | refine VOps.fin ?_ | refine VW.seq ?_ | refine VW.reg ?_ | refine VW.skip ?_ | refine VW.exit ?_ | refine VW.ret ?_ | refine VW.condT rfl ?_ | refine VW.condF rfl ?_ | refine VW.block ?_ | rw [then_normal] | rw [then_ret] | rw [then_exit] | rw [inB_normal] | rw [inB_ret] | rw [inB_exit, if_pos rfl] | rw [inB_exit, if_neg (by decide)]
    exact ⟨.inl rfl, rfl, _, rfl, rfl, rfl⟩
  · rw [decide_eq_false h]
    repeat first | refine VOps.sk rfl ?_ | (refine VOps.rd (x := .mv _) rfl (by first | exact rfl | assumption) ?_) | (refine VOps.rd rfl (by first | exact ev_add2 rfl rfl (by omega) | exact ev_sub2 rfl rfl (by omega) | exact ev_cT rfl rfl (by first | exact rfl | (dsimp only [cmpT]; omega)) | exact ev_cF rfl rfl (by first | exact rfl | (dsimp only [cmpF]; omega)) | exact ev_sT rfl rfl (by assumption) | exact ev_sF rfl rfl (by assumption) | exact ev_slst3 rfl rfl rfl (by omega) | exact ev_ixs rfl rfl (by omega) (by assumption) | exact rfl | assumption) ?_) | refine VOps.fin ?_ | refine VW.seq ?_ | refine VW.reg ?_ | refine VW.skip ?_ | refine VW.exit ?_ | refine VW.ret ?_ | refine VW.condT rfl ?_ | refine VW.condF rfl ?_ | refine VW.block ?_ | rw [then_normal] | rw [then_ret] | rw [then_exit] | rw [inB_normal] | rw [inB_ret] | rw [inB_exit, if_pos rfl] | rw [inB_exit, if_neg (by decide)]
    exact ⟨.inl rfl, rfl, _, rfl, rfl, rfl⟩
theorem mem5 (c : UInt8) : c ∈ bl5 ↔ isS c = true := by
  simp only [bl5, isS, isB, List.mem_cons, List.not_mem_nil, or_false, Bool.or_eq_true, beq_iff_eq]
  constructor
  · rintro (h | h | h | h | h) <;> simp [h]
  · rintro ((((h | h) | h) | h) | h) <;> simp [h]
theorem ix5T {c : UInt8} (h : isS c = true) : 0 ≤ idxOf8 c bl5 0 := by rw [idxOf8_eq, if_pos ((mem5 c).2 h)]; omega
theorem ix5F {c : UInt8} (h : isS c = false) : idxOf8 c bl5 0 = -1 := by rw [idxOf8_eq, if_neg]; intro hm; rw [(mem5 c).1 hm] at h; cases h
theorem hiS {c : UInt8} (h : 128 ≤ c.toNat) : isS c = false := by
  cases hc : isS c with
  | false => rfl
  | true => have := bl5_lo c ((mem5 c).2 hc); omega
theorem scan_hi {s : List UInt8} : ∀ {wd pos : Nat}, (∀ j, pos ≤ j → j < pos + wd → ∃ x, s[j]? = some x ∧ 128 ≤ x.toNat) → scan nS s (pos + wd) = scan nS s pos
  | 0, pos, _ => rfl
  | wd + 1, pos, h => by
    obtain ⟨x, h1, h2⟩ := h pos (Nat.le_refl _) (by omega)
    have ih := scan_hi (s := s) (wd := wd) (pos := pos + 1) fun j h1 h2 => h j (by omega) (by omega)
    rw [show pos + (wd + 1) = pos + 1 + wd by omega, ih, scan_go h1 (by simp [nS, hiS h2])]
theorem anyLong (G : Hp) (s : List UInt8) (hs : s.length ≤ 4611686018427387904) (h8 : 8 < s.length) : FnV Tryz.prog 33 [.str s, .str bl5] (H0 ++ G) fun r H' => r = .int .i64 (anyIx s) ∧ ∃ G', H' = (H0 ++ G) ++ G' := by
  refine FnV.enterRow ok33 (Nat.le_of_ble_eq_true rfl) fun B => ?_
  have hb : ¬ bl5 = [] := by decide
  have b5 : bl5.length = 5 := rfl
  repeat first | refine VOps.sk rfl ?_ | (refine VOps.rd (x := .mv _) rfl (by first | exact rfl | assumption) ?_) | (refine VOps.rd rfl (by first | exact ev_add2 rfl rfl (by omega) | exact ev_sub2 rfl rfl (by omega) | exact ev_cT rfl rfl (by first | exact rfl | (dsimp only [cmpT]; omega)) | exact ev_cF rfl rfl (by first | exact rfl | (dsimp only [cmpF]; omega)) | exact ev_sT rfl rfl (by assumption) | exact ev_sF rfl rfl (by assumption) | exact ev_slst3 rfl rfl rfl (by omega) | exact ev_ixs rfl rfl (by omega) (by assumption) | exact rfl | assumption) ?_) | refine VOps.fin ?_ | refine VW.seq ?_ | refine VW.reg ?_ | refine VW.skip ?_ | refine VW.exit ?_ | refine VW.ret ?_ | refine VW.condT rfl ?_ | refine VW.condF rfl ?_ | refine VW.block ?_ | rw [then_normal] | rw [then_ret] | rw [then_exit] | rw [inB_normal] | rw [inB_ret] | rw [inB_exit, if_pos rfl] | rw [inB_exit, if_neg (by decide)]
  refine VOps.call rfl rfl rfl ((big s.length).mono ?_)
  rintro r H2 ⟨rfl, rfl⟩
  rw [decide_eq_true (by omega)]
  repeat first | refine VOps.sk rfl ?_ | (refine VOps.rd (x := .mv _) rfl (by first | exact rfl | assumption) ?_) | (refine VOps.rd rfl (by first | exact ev_add2 rfl rfl (by omega) | exact ev_sub2 rfl rfl (by omega) | exact ev_cT rfl rfl (by first | exact rfl | (dsimp only [cmpT]; omega)) | exact ev_cF rfl rfl (by first | exact rfl | (dsimp only [cmpF]; omega)) | exact ev_sT rfl rfl (by assumption) | exact ev_sF rfl rfl (by assumption) | exact ev_slst3 rfl rfl rfl (by omega) | exact ev_ixs rfl rfl (by omega) (by assumption) | exact rfl | assumption) ?_) | refine VOps.fin ?_ | refine VW.seq ?_ | refine VW.reg ?_ | refine VW.skip ?_ | refine VW.exit ?_ | refine VW.ret ?_ | refine VW.condT rfl ?_ | refine VW.condF rfl ?_ | refine VW.block ?_ | rw [then_normal] | rw [then_ret] | rw [then_exit] | rw [inB_normal] | rw [inB_ret] | rw [inB_exit, if_pos rfl] | rw [inB_exit, if_neg (by decide)]
  refine VOps.call rfl rfl rfl ((set5 G).mono ?_)
  rintro r H2 ⟨rfl, rfl⟩
  repeat first | refine VOps.sk rfl ?_ | (refine VOps.rd (x := .mv _) rfl (by first | exact rfl | assumption) ?_) | (refine VOps.rd rfl (by first | exact ev_add2 rfl rfl (by omega) | exact ev_sub2 rfl rfl (by omega) | exact ev_cT rfl rfl (by first | exact rfl | (dsimp only [cmpT]; omega)) | exact ev_cF rfl rfl (by first | exact rfl | (dsimp only [cmpF]; omega)) | exact ev_sT rfl rfl (by assumption) | exact ev_sF rfl rfl (by assumption) | exact ev_slst3 rfl rfl rfl (by omega) | exact ev_ixs rfl rfl (by omega) (by assumption) | exact rfl | assumption) ?_) | refine VOps.fin ?_ | refine VW.seq ?_ | refine VW.reg ?_ | refine VW.skip ?_ | refine VW.exit ?_ | refine VW.ret ?_ | refine VW.condT rfl ?_ | refine VW.condF rfl ?_ | refine VW.block ?_ | rw [then_normal] | rw [then_ret] | rw [then_exit] | rw [inB_normal] | rw [inB_ret] | rw [inB_exit, if_pos rfl] | rw [inB_exit, if_neg (by decide)]
  refine VOps.ef rfl rfl ?_
  rw [applyU_push]
  refine VOps.ef rfl (ev_storeAll rfl rfl (last_get _ _) (by decide) len5 rfl (ok256 len5 tab5)) ?_
  rw [applyU_set (last_lt _ _), last_set]
  repeat first | refine VOps.sk rfl ?_ | (refine VOps.rd (x := .mv _) rfl (by first | exact rfl | assumption) ?_) | (refine VOps.rd rfl (by first | exact ev_add2 rfl rfl (by omega) | exact ev_sub2 rfl rfl (by omega) | exact ev_cT rfl rfl (by first | exact rfl | (dsimp only [cmpT]; omega)) | exact ev_cF rfl rfl (by first | exact rfl | (dsimp only [cmpF]; omega)) | exact ev_sT rfl rfl (by assumption) | exact ev_sF rfl rfl (by assumption) | exact ev_slst3 rfl rfl rfl (by omega) | exact ev_ixs rfl rfl (by omega) (by assumption) | exact rfl | assumption) ?_) | refine VOps.fin ?_ | refine VW.seq ?_ | refine VW.reg ?_ | refine VW.skip ?_ | refine VW.exit ?_ | refine VW.ret ?_ | refine VW.condT rfl ?_ | refine VW.condF rfl ?_ | refine VW.block ?_ | rw [then_normal] | rw [then_ret] | rw [then_exit] | rw [inB_normal] | rw [inB_ret] | rw [inB_exit, if_pos rfl] | rw [inB_exit, if_neg (by decide)]
  refine VW.loop (fun n F H' => ∃ i : Nat, i ≤ s.length ∧ n = s.length - i ∧ scan nS s i = scan nS s 0 ∧ Cov [(0, .str s), (6, .ptr (some ⟨(H0 ++ G).length, 0, 0⟩)), (8, .int .i64 i)] F ∧ F.get dslot = none ∧ H' = (H0 ++ G) ++ [Blk.row 134 .own [t5]]) s.length ⟨0, Nat.zero_le _, rfl, rfl, ⟨rfl, rfl, rfl, trivial⟩, rfl, rfl⟩ ?_
  rintro n F H' ⟨i, hi, rfl, hsc, hc, hd, rfl⟩
  refine VW.cov hc hd rfl ?_
  by_cases hlt : i < s.length
  · obtain ⟨c, hg⟩ : ∃ c, s[i]? = some c := ⟨_, List.getElem?_eq_getElem hlt⟩
    have hg' : s[((i : Nat) : Int).toNat]? = some c := by rw [Int.toNat_natCast]; exact hg
    repeat first | refine VOps.sk rfl ?_ | (refine VOps.rd (x := .mv _) rfl (by first | exact rfl | assumption) ?_) | (refine VOps.rd rfl (by first | exact ev_add2 rfl rfl (by omega) | exact ev_sub2 rfl rfl (by omega) | exact ev_cT rfl rfl (by first | exact rfl | (dsimp only [cmpT]; omega)) | exact ev_cF rfl rfl (by first | exact rfl | (dsimp only [cmpF]; omega)) | exact ev_sT rfl rfl (by assumption) | exact ev_sF rfl rfl (by assumption) | exact ev_slst3 rfl rfl rfl (by omega) | exact ev_ixs rfl rfl (by omega) (by assumption) | exact rfl | assumption) ?_) | refine VOps.fin ?_ | refine VW.seq ?_ | refine VW.reg ?_ | refine VW.skip ?_ | refine VW.exit ?_ | refine VW.ret ?_ | refine VW.condT rfl ?_ | refine VW.condF rfl ?_ | refine VW.block ?_ | rw [then_normal] | rw [then_ret] | rw [then_exit] | rw [inB_normal] | rw [inB_ret] | rw [inB_exit, if_pos rfl] | rw [inB_exit, if_neg (by decide)]
    refine VOps.call rfl rfl rfl ((contains (last_get _ _) len5 tab5 c).mono ?_)
    rintro r H2 ⟨rfl, rfl⟩
    cases hp : isS c
    · repeat first | refine VOps.sk rfl ?_ | (refine VOps.rd (x := .mv _) rfl (by first | exact rfl | assumption) ?_) | (refine VOps.rd rfl (by first | exact ev_add2 rfl rfl (by omega) | exact ev_sub2 rfl rfl (by omega) | exact ev_cT rfl rfl (by first | exact rfl | (dsimp only [cmpT]; omega)) | exact ev_cF rfl rfl (by first | exact rfl | (dsimp only [cmpF]; omega)) | exact ev_sT rfl rfl (by assumption) | exact ev_sF rfl rfl (by assumption) | exact ev_slst3 rfl rfl rfl (by omega) | exact ev_ixs rfl rfl (by omega) (by assumption) | exact rfl | assumption) ?_) | refine VOps.fin ?_ | refine VW.seq ?_ | refine VW.reg ?_ | refine VW.skip ?_ | refine VW.exit ?_ | refine VW.ret ?_ | refine VW.condT rfl ?_ | refine VW.condF rfl ?_ | refine VW.block ?_ | rw [then_normal] | rw [then_ret] | rw [then_exit] | rw [inB_normal] | rw [inB_ret] | rw [inB_exit, if_pos rfl] | rw [inB_exit, if_neg (by decide)]
      refine ⟨s.length - (i + 1), by omega, i + 1, by omega, rfl, ?_, ⟨rfl, rfl, ?_, trivial⟩, rfl, rfl⟩
      · rw [scan_go hg (by simp [nS, hp])]; exact hsc
      · show some (VV.int .i64 ((i : Int) + 1)) = _; simp
    · repeat first | refine VOps.sk rfl ?_ | (refine VOps.rd (x := .mv _) rfl (by first | exact rfl | assumption) ?_) | (refine VOps.rd rfl (by first | exact ev_add2 rfl rfl (by omega) | exact ev_sub2 rfl rfl (by omega) | exact ev_cT rfl rfl (by first | exact rfl | (dsimp only [cmpT]; omega)) | exact ev_cF rfl rfl (by first | exact rfl | (dsimp only [cmpF]; omega)) | exact ev_sT rfl rfl (by assumption) | exact ev_sF rfl rfl (by assumption) | exact ev_slst3 rfl rfl rfl (by omega) | exact ev_ixs rfl rfl (by omega) (by assumption) | exact rfl | assumption) ?_) | refine VOps.fin ?_ | refine VW.seq ?_ | refine VW.reg ?_ | refine VW.skip ?_ | refine VW.exit ?_ | refine VW.ret ?_ | refine VW.condT rfl ?_ | refine VW.condF rfl ?_ | refine VW.block ?_ | rw [then_normal] | rw [then_ret] | rw [then_exit] | rw [inB_normal] | rw [inB_ret] | rw [inB_exit, if_pos rfl] | rw [inB_exit, if_neg (by decide)]
      refine ⟨.inl rfl, rfl, _, rfl, ?_, _, rfl⟩
      have h1 := scan_stop hg (p := nS) (by simp [nS, hp])
      rw [hsc] at h1
      unfold anyIx
      rw [h1, if_pos hlt]
  · have hn : i = s.length := by omega
    subst hn
    repeat first | refine VOps.sk rfl ?_ | (refine VOps.rd (x := .mv _) rfl (by first | exact rfl | assumption) ?_) | (refine VOps.rd rfl (by first | exact ev_add2 rfl rfl (by omega) | exact ev_sub2 rfl rfl (by omega) | exact ev_cT rfl rfl (by first | exact rfl | (dsimp only [cmpT]; omega)) | exact ev_cF rfl rfl (by first | exact rfl | (dsimp only [cmpF]; omega)) | exact ev_sT rfl rfl (by assumption) | exact ev_sF rfl rfl (by assumption) | exact ev_slst3 rfl rfl rfl (by omega) | exact ev_ixs rfl rfl (by omega) (by assumption) | exact rfl | assumption) ?_) | refine VOps.fin ?_ | refine VW.seq ?_ | refine VW.reg ?_ | refine VW.skip ?_ | refine VW.exit ?_ | refine VW.ret ?_ | refine VW.condT rfl ?_ | refine VW.condF rfl ?_ | refine VW.block ?_ | rw [then_normal] | rw [then_ret] | rw [then_exit] | rw [inB_normal] | rw [inB_ret] | rw [inB_exit, if_pos rfl] | rw [inB_exit, if_neg (by decide)]
    refine ⟨.inl rfl, rfl, _, rfl, ?_, _, rfl⟩
    rw [scan_end (Nat.le_refl _)] at hsc
    unfold anyIx
    rw [← hsc, if_neg (by omega)]
theorem anyShort (G : Hp) (s : List UInt8) (h8 : s.length ≤ 8) : FnV Tryz.prog 33 [.str s, .str bl5] (H0 ++ G) fun r H' => r = .int .i64 (anyIx s) ∧ ∃ G', H' = (H0 ++ G) ++ G' := by
  refine FnV.enterRow ok33 (Nat.le_of_ble_eq_true rfl) fun B => ?_
  have hb : ¬ bl5 = [] := by decide
  have b5 : bl5.length = 5 := rfl
  repeat first | refine VOps.sk rfl ?_ | (refine VOps.rd (x := .mv _) rfl (by first | exact rfl | assumption) ?_) | (refine VOps.rd rfl (by first | exact ev_add2 rfl rfl (by omega) | exact ev_sub2 rfl rfl (by omega) | exact ev_cT rfl rfl (by first | exact rfl | (dsimp only [cmpT]; omega)) | exact ev_cF rfl rfl (by first | exact rfl | (dsimp only [cmpF]; omega)) | exact ev_sT rfl rfl (by assumption) | exact ev_sF rfl rfl (by assumption) | exact ev_slst3 rfl rfl rfl (by omega) | exact ev_ixs rfl rfl (by omega) (by assumption) | exact rfl | assumption) ?_) | refine VOps.fin ?_ | refine VW.seq ?_ | refine VW.reg ?_ | refine VW.skip ?_ | refine VW.exit ?_ | refine VW.ret ?_ | refine VW.condT rfl ?_ | refine VW.condF rfl ?_ | refine VW.block ?_ | rw [then_normal] | rw [then_ret] | rw [then_exit] | rw [inB_normal] | rw [inB_ret] | rw [inB_exit, if_pos rfl] | rw [inB_exit, if_neg (by decide)]
  refine VOps.call rfl rfl rfl ((big s.length).mono ?_)
  rintro r H2 ⟨rfl, rfl⟩
  rw [decide_eq_false (by omega)]
  repeat first | refine VOps.sk rfl ?_ | (refine VOps.rd (x := .mv _) rfl (by first | exact rfl | assumption) ?_) | (refine VOps.rd rfl (by first | exact ev_add2 rfl rfl (by omega) | exact ev_sub2 rfl rfl (by omega) | exact ev_cT rfl rfl (by first | exact rfl | (dsimp only [cmpT]; omega)) | exact ev_cF rfl rfl (by first | exact rfl | (dsimp only [cmpF]; omega)) | exact ev_sT rfl rfl (by assumption) | exact ev_sF rfl rfl (by assumption) | exact ev_slst3 rfl rfl rfl (by omega) | exact ev_ixs rfl rfl (by omega) (by assumption) | exact rfl | assumption) ?_) | refine VOps.fin ?_ | refine VW.seq ?_ | refine VW.reg ?_ | refine VW.skip ?_ | refine VW.exit ?_ | refine VW.ret ?_ | refine VW.condT rfl ?_ | refine VW.condF rfl ?_ | refine VW.block ?_ | rw [then_normal] | rw [then_ret] | rw [then_exit] | rw [inB_normal] | rw [inB_ret] | rw [inB_exit, if_pos rfl] | rw [inB_exit, if_neg (by decide)]
  refine VOps.ef rfl rfl ?_
  rw [applyU_push]
  repeat first | refine VOps.sk rfl ?_ | (refine VOps.rd (x := .mv _) rfl (by first | exact rfl | assumption) ?_) | (refine VOps.rd rfl (by first | exact ev_add2 rfl rfl (by omega) | exact ev_sub2 rfl rfl (by omega) | exact ev_cT rfl rfl (by first | exact rfl | (dsimp only [cmpT]; omega)) | exact ev_cF rfl rfl (by first | exact rfl | (dsimp only [cmpF]; omega)) | exact ev_sT rfl rfl (by assumption) | exact ev_sF rfl rfl (by assumption) | exact ev_slst3 rfl rfl rfl (by omega) | exact ev_ixs rfl rfl (by omega) (by assumption) | exact rfl | assumption) ?_) | refine VOps.fin ?_ | refine VW.seq ?_ | refine VW.reg ?_ | refine VW.skip ?_ | refine VW.exit ?_ | refine VW.ret ?_ | refine VW.condT rfl ?_ | refine VW.condF rfl ?_ | refine VW.block ?_ | rw [then_normal] | rw [then_ret] | rw [then_exit] | rw [inB_normal] | rw [inB_ret] | rw [inB_exit, if_pos rfl] | rw [inB_exit, if_neg (by decide)]
  refine VW.loop (fun n F H' => ∃ i : Nat, i ≤ s.length ∧ n = s.length - i ∧ scan nS s i = scan nS s 0 ∧ Cov [(1, .str bl5), (45, .ptr (some ⟨(H0 ++ G).length, 0, 0⟩))] F ∧ F.get dslot = none ∧ H' = (H0 ++ G) ++ [Blk.obj (.siter s i)]) s.length ⟨0, Nat.zero_le _, rfl, rfl, ⟨rfl, rfl, trivial⟩, rfl, rfl⟩ ?_
  rintro n F H' ⟨i, hi, rfl, hsc, hc, hd, rfl⟩
  refine VW.cov hc hd rfl ?_
  by_cases hlt : i < s.length
  · obtain ⟨c, hg⟩ : ∃ c, s[i]? = some c := ⟨_, List.getElem?_eq_getElem hlt⟩
    by_cases hlo : c.toNat < 128
    · repeat first | refine VOps.sk rfl ?_ | (refine VOps.rd (x := .mv _) rfl (by first | exact rfl | assumption) ?_) | (refine VOps.rd rfl (by first | exact ev_add2 rfl rfl (by omega) | exact ev_sub2 rfl rfl (by omega) | exact ev_cT rfl rfl (by first | exact rfl | (dsimp only [cmpT]; omega)) | exact ev_cF rfl rfl (by first | exact rfl | (dsimp only [cmpF]; omega)) | exact ev_sT rfl rfl (by assumption) | exact ev_sF rfl rfl (by assumption) | exact ev_slst3 rfl rfl rfl (by omega) | exact ev_ixs rfl rfl (by omega) (by assumption) | exact rfl | assumption) ?_) | refine VOps.fin ?_ | refine VW.seq ?_ | refine VW.reg ?_ | refine VW.skip ?_ | refine VW.exit ?_ | refine VW.ret ?_ | refine VW.condT rfl ?_ | refine VW.condF rfl ?_ | refine VW.block ?_ | rw [then_normal] | rw [then_ret] | rw [then_exit] | rw [inB_normal] | rw [inB_ret] | rw [inB_exit, if_pos rfl] | rw [inB_exit, if_neg (by decide)]
      refine VOps.ef rfl (ev_snextL rfl (last_get _ _) hg hlo) ?_
      rw [applyU_set (last_lt _ _), last_set]
      repeat first | refine VOps.sk rfl ?_ | (refine VOps.rd (x := .mv _) rfl (by first | exact rfl | assumption) ?_) | (refine VOps.rd rfl (by first | exact ev_add2 rfl rfl (by omega) | exact ev_sub2 rfl rfl (by omega) | exact ev_cT rfl rfl (by first | exact rfl | (dsimp only [cmpT]; omega)) | exact ev_cF rfl rfl (by first | exact rfl | (dsimp only [cmpF]; omega)) | exact ev_sT rfl rfl (by assumption) | exact ev_sF rfl rfl (by assumption) | exact ev_slst3 rfl rfl rfl (by omega) | exact ev_ixs rfl rfl (by omega) (by assumption) | exact rfl | assumption) ?_) | refine VOps.fin ?_ | refine VW.seq ?_ | refine VW.reg ?_ | refine VW.skip ?_ | refine VW.exit ?_ | refine VW.ret ?_ | refine VW.condT rfl ?_ | refine VW.condF rfl ?_ | refine VW.block ?_ | rw [then_normal] | rw [then_ret] | rw [then_exit] | rw [inB_normal] | rw [inB_ret] | rw [inB_exit, if_pos rfl] | rw [inB_exit, if_neg (by decide)]
      refine VOps.call rfl rfl rfl ((runeLo hlo).mono ?_)
      rintro r H2 ⟨rfl, rfl⟩
      cases hp : isS c
      · have h5 := ix5F hp
        repeat first | refine VOps.sk rfl ?_ | (refine VOps.rd (x := .mv _) rfl (by first | exact rfl | assumption) ?_) | (refine VOps.rd rfl (by first | exact ev_add2 rfl rfl (by omega) | exact ev_sub2 rfl rfl (by omega) | exact ev_cT rfl rfl (by first | exact rfl | (dsimp only [cmpT]; omega)) | exact ev_cF rfl rfl (by first | exact rfl | (dsimp only [cmpF]; omega)) | exact ev_sT rfl rfl (by assumption) | exact ev_sF rfl rfl (by assumption) | exact ev_slst3 rfl rfl rfl (by omega) | exact ev_ixs rfl rfl (by omega) (by assumption) | exact rfl | assumption) ?_) | refine VOps.fin ?_ | refine VW.seq ?_ | refine VW.reg ?_ | refine VW.skip ?_ | refine VW.exit ?_ | refine VW.ret ?_ | refine VW.condT rfl ?_ | refine VW.condF rfl ?_ | refine VW.block ?_ | rw [then_normal] | rw [then_ret] | rw [then_exit] | rw [inB_normal] | rw [inB_ret] | rw [inB_exit, if_pos rfl] | rw [inB_exit, if_neg (by decide)]
        refine ⟨s.length - (i + 1), by omega, i + 1, by omega, rfl, ?_, ⟨rfl, rfl, trivial⟩, rfl, rfl⟩
        rw [scan_go hg (by simp [nS, hp])]; exact hsc
      · have h5 := ix5T hp
        repeat first | refine VOps.sk rfl ?_ | (refine VOps.rd (x := .mv _) rfl (by first | exact rfl | assumption) ?_) | (refine VOps.rd rfl (by first | exact ev_add2 rfl rfl (by omega) | exact ev_sub2 rfl rfl (by omega) | exact ev_cT rfl rfl (by first | exact rfl | (dsimp only [cmpT]; omega)) | exact ev_cF rfl rfl (by first | exact rfl | (dsimp only [cmpF]; omega)) | exact ev_sT rfl rfl (by assumption) | exact ev_sF rfl rfl (by assumption) | exact ev_slst3 rfl rfl rfl (by omega) | exact ev_ixs rfl rfl (by omega) (by assumption) | exact rfl | assumption) ?_) | refine VOps.fin ?_ | refine VW.seq ?_ | refine VW.reg ?_ | refine VW.skip ?_ | refine VW.exit ?_ | refine VW.ret ?_ | refine VW.condT rfl ?_ | refine VW.condF rfl ?_ | refine VW.block ?_ | rw [then_normal] | rw [then_ret] | rw [then_exit] | rw [inB_normal] | rw [inB_ret] | rw [inB_exit, if_pos rfl] | rw [inB_exit, if_neg (by decide)]
        refine ⟨.inl rfl, rfl, _, rfl, ?_, _, rfl⟩
        have h1 := scan_stop hg (p := nS) (by simp [nS, hp])
        rw [hsc] at h1
        unfold anyIx
        rw [h1, if_pos hlt]
    · have hdh := decode_hi hg (by omega)
      repeat first | refine VOps.sk rfl ?_ | (refine VOps.rd (x := .mv _) rfl (by first | exact rfl | assumption) ?_) | (refine VOps.rd rfl (by first | exact ev_add2 rfl rfl (by omega) | exact ev_sub2 rfl rfl (by omega) | exact ev_cT rfl rfl (by first | exact rfl | (dsimp only [cmpT]; omega)) | exact ev_cF rfl rfl (by first | exact rfl | (dsimp only [cmpF]; omega)) | exact ev_sT rfl rfl (by assumption) | exact ev_sF rfl rfl (by assumption) | exact ev_slst3 rfl rfl rfl (by omega) | exact ev_ixs rfl rfl (by omega) (by assumption) | exact rfl | assumption) ?_) | refine VOps.fin ?_ | refine VW.seq ?_ | refine VW.reg ?_ | refine VW.skip ?_ | refine VW.exit ?_ | refine VW.ret ?_ | refine VW.condT rfl ?_ | refine VW.condF rfl ?_ | refine VW.block ?_ | rw [then_normal] | rw [then_ret] | rw [then_exit] | rw [inB_normal] | rw [inB_ret] | rw [inB_exit, if_pos rfl] | rw [inB_exit, if_neg (by decide)]
      obtain ⟨r, wd, hdec, h128, hv, hw1, hw2, hall⟩ := hdh
      refine VOps.ef rfl (ev_snextH rfl (last_get _ _) hg hlo hdec) ?_
      rw [applyU_set (last_lt _ _), last_set]
      clear hdec
      have hrun := runeHi (G ++ [Blk.obj (.siter s (i + wd))]) h128 hv
      rw [← List.append_assoc] at hrun
      clear hv
      repeat first | refine VOps.sk rfl ?_ | (refine VOps.rd (x := .mv _) rfl (by first | exact rfl | assumption) ?_) | (refine VOps.rd rfl (by first | exact ev_add2 rfl rfl (by omega) | exact ev_sub2 rfl rfl (by omega) | exact ev_cT rfl rfl (by first | exact rfl | (dsimp only [cmpT]; omega)) | exact ev_cF rfl rfl (by first | exact rfl | (dsimp only [cmpF]; omega)) | exact ev_sT rfl rfl (by assumption) | exact ev_sF rfl rfl (by assumption) | exact ev_slst3 rfl rfl rfl (by omega) | exact ev_ixs rfl rfl (by omega) (by assumption) | exact rfl | assumption) ?_) | refine VOps.fin ?_ | refine VW.seq ?_ | refine VW.reg ?_ | refine VW.skip ?_ | refine VW.exit ?_ | refine VW.ret ?_ | refine VW.condT rfl ?_ | refine VW.condF rfl ?_ | refine VW.block ?_ | rw [then_normal] | rw [then_ret] | rw [then_exit] | rw [inB_normal] | rw [inB_ret] | rw [inB_exit, if_pos rfl] | rw [inB_exit, if_neg (by decide)]
      refine VOps.call rfl rfl rfl (hrun.mono ?_)
      rintro r H2 ⟨rfl, rfl⟩
      repeat first | refine VOps.sk rfl ?_ | (refine VOps.rd (x := .mv _) rfl (by first | exact rfl | assumption) ?_) | (refine VOps.rd rfl (by first | exact ev_add2 rfl rfl (by omega) | exact ev_sub2 rfl rfl (by omega) | exact ev_cT rfl rfl (by first | exact rfl | (dsimp only [cmpT]; omega)) | exact ev_cF rfl rfl (by first | exact rfl | (dsimp only [cmpF]; omega)) | exact ev_sT rfl rfl (by assumption) | exact ev_sF rfl rfl (by assumption) | exact ev_slst3 rfl rfl rfl (by omega) | exact ev_ixs rfl rfl (by omega) (by assumption) | exact rfl | assumption) ?_) | refine VOps.fin ?_ | refine VW.seq ?_ | refine VW.reg ?_ | refine VW.skip ?_ | refine VW.exit ?_ | refine VW.ret ?_ | refine VW.condT rfl ?_ | refine VW.condF rfl ?_ | refine VW.block ?_ | rw [then_normal] | rw [then_ret] | rw [then_exit] | rw [inB_normal] | rw [inB_ret] | rw [inB_exit, if_pos rfl] | rw [inB_exit, if_neg (by decide)]
      refine ⟨s.length - (i + wd), by omega, i + wd, by omega, rfl, ?_, ⟨rfl, rfl, trivial⟩, rfl, rfl⟩
      rw [scan_hi hall]; exact hsc
  · have hn : i = s.length := by omega
    subst hn
    repeat first | refine VOps.sk rfl ?_ | (refine VOps.rd (x := .mv _) rfl (by first | exact rfl | assumption) ?_) | (refine VOps.rd rfl (by first | exact ev_add2 rfl rfl (by omega) | exact ev_sub2 rfl rfl (by omega) | exact ev_cT rfl rfl (by first | exact rfl | (dsimp only [cmpT]; omega)) | exact ev_cF rfl rfl (by first | exact rfl | (dsimp only [cmpF]; omega)) | exact ev_sT rfl rfl (by assumption) | exact ev_sF rfl rfl (by assumption) | exact ev_slst3 rfl rfl rfl (by omega) | exact ev_ixs rfl rfl (by omega) (by assumption) | exact rfl | assumption) ?_) | refine VOps.fin ?_ | refine VW.seq ?_ | refine VW.reg ?_ | refine VW.skip ?_ | refine VW.exit ?_ | refine VW.ret ?_ | refine VW.condT rfl ?_ | refine VW.condF rfl ?_ | refine VW.block ?_ | rw [then_normal] | rw [then_ret] | rw [then_exit] | rw [inB_normal] | rw [inB_ret] | rw [inB_exit, if_pos rfl] | rw [inB_exit, if_neg (by decide)]
    refine VOps.ef rfl (ev_snextE rfl (last_get _ _) (Nat.le_refl _)) ?_
    rw [show applyU ((H0 ++ G) ++ [Blk.obj (.siter s s.length)]) [] = (H0 ++ G) ++ [Blk.obj (.siter s s.length)] from rfl]
    repeat first | refine VOps.sk rfl ?_ | (refine VOps.rd (x := .mv _) rfl (by first | exact rfl | assumption) ?_) | (refine VOps.rd rfl (by first | exact ev_add2 rfl rfl (by omega) | exact ev_sub2 rfl rfl (by omega) | exact ev_cT rfl rfl (by first | exact rfl | (dsimp only [cmpT]; omega)) | exact ev_cF rfl rfl (by first | exact rfl | (dsimp only [cmpF]; omega)) | exact ev_sT rfl rfl (by assumption) | exact ev_sF rfl rfl (by assumption) | exact ev_slst3 rfl rfl rfl (by omega) | exact ev_ixs rfl rfl (by omega) (by assumption) | exact rfl | assumption) ?_) | refine VOps.fin ?_ | refine VW.seq ?_ | refine VW.reg ?_ | refine VW.skip ?_ | refine VW.exit ?_ | refine VW.ret ?_ | refine VW.condT rfl ?_ | refine VW.condF rfl ?_ | refine VW.block ?_ | rw [then_normal] | rw [then_ret] | rw [then_exit] | rw [inB_normal] | rw [inB_ret] | rw [inB_exit, if_pos rfl] | rw [inB_exit, if_neg (by decide)]
    refine ⟨.inl rfl, rfl, _, rfl, ?_, _, rfl⟩
    rw [scan_end (Nat.le_refl _)] at hsc
    unfold anyIx
    rw [← hsc, if_neg (by omega)]
theorem any5 (G : Hp) (s : List UInt8) (hs : s.length ≤ 4611686018427387904) : FnV Tryz.prog 33 [.str s, .str bl5] (H0 ++ G) fun r H' => r = .int .i64 (anyIx s) ∧ H' = H0 ++ G := by
  refine FnV.tidy rfl ?_
  by_cases h : 8 < s.length
  · exact anyLong G s hs h
  · exact anyShort G s (by omega)
end Tok
end Go.Proofs.YtfodpmekcddgpaaGreatDoor
