/- Cut at a quote; IndexRune among the blanks and the quote. -/
import Derived.Test.YtfodpmekcddgpaaGreatDoorToD
namespace Go.Proofs.YtfodpmekcddgpaaGreatDoor
set_option linter.unusedSimpArgs false
set_option linter.unusedVariables false
open Go Go.Wm Go.Wm.To Go.Proofs Go.RowKit
set_option maxRecDepth 100000
set_option maxHeartbeats 4000000
namespace Tok
theorem cst1 (H : Hp) : Cst [H] H := Cst.rep 1 H
theorem cst2 (H : Hp) : Cst [H, H] H := Cst.rep 2 H
theorem take_tw (p : UInt8 → Bool) (s : List UInt8) : s.take (s.takeWhile p).length = s.takeWhile p := by
  have h := List.takeWhile_prefix p (l := s)
  exact (List.prefix_iff_eq_take.1 h).symm
theorem drop_tw (p : UInt8 → Bool) (s : List UInt8) : s.drop (s.takeWhile p).length = s.dropWhile p := by
  have h : s.takeWhile p ++ s.dropWhile p = s := List.takeWhile_append_dropWhile
  conv => lhs; arg 2; rw [← h]
  rw [List.drop_left]
theorem tw_all {p : UInt8 → Bool} : ∀ {s : List UInt8}, (∀ c ∈ s, p c = true) → s.takeWhile p = s ∧ s.dropWhile p = []
  | [], _ => ⟨rfl, rfl⟩
  | c :: s, h => by
    obtain ⟨h1, h2⟩ := tw_all (s := s) fun d hd => h d (List.mem_cons_of_mem _ hd)
    have hc := h c List.mem_cons_self
    rw [List.takeWhile_cons_of_pos hc, List.dropWhile_cons_of_pos hc, h1]
    exact ⟨rfl, h2⟩
theorem tw_lt {p : UInt8 → Bool} : ∀ {s : List UInt8} {c : UInt8}, c ∈ s → p c = false → (s.takeWhile p).length < s.length
  | d :: s, c, h, hc => by
    cases hd : p d with
    | false => rw [List.takeWhile_cons_of_neg (by simp [hd])]; simp
    | true =>
      rw [List.takeWhile_cons_of_pos hd]
      rcases List.mem_cons.1 h with rfl | h
      · rw [hd] at hc; cases hc
      · have := tw_lt h hc
        simp; omega
theorem notq {s : List UInt8} (h : (39 : UInt8) ∉ s) : s.takeWhile (fun x => !q x) = s ∧ s.dropWhile (fun x => !q x) = [] :=
  tw_all fun c hc => by
    have : c ≠ 39 := fun e => h (e ▸ hc)
    simp [q, this]
def cutV (s : List UInt8) : VV := .tup [.str (s.takeWhile fun x => !q x), .str ((s.dropWhile fun x => !q x).drop 1), .bool (decide ((39 : UInt8) ∈ s))]
theorem cut1 {H : Hp} (s : List UInt8) (hs : s.length ≤ 4611686018427387904) : FnV Tryz.prog 61 [.str s, .str [39]] H fun r H' => r = cutV s ∧ H' = H := by
  refine FnV.enterRow ok61 (Nat.le_of_ble_eq_true rfl) fun B => ?_
  repeat first | refine VOps.sk rfl ?_ | (refine VOps.rd (x := .mv _) rfl (by first | exact rfl | assumption) ?_) | (refine VOps.rd rfl (by first | exact ev_add2 rfl rfl (by omega) | exact ev_sub2 rfl rfl (by omega) | exact ev_cT rfl rfl (by first | exact rfl | (dsimp only [cmpT]; omega)) | exact ev_cF rfl rfl (by first | exact rfl | (dsimp only [cmpF]; omega)) | exact ev_sT rfl rfl (by assumption) | exact ev_sF rfl rfl (by assumption) | exact ev_slst3 rfl rfl rfl (by omega) | exact ev_ixs rfl rfl (by omega) (by assumption) | exact rfl | assumption) ?_) | refine VOps.fin ?_ | refine VW.seq ?_ | refine VW.reg ?_ | refine VW.skip ?_ | refine VW.exit ?_ | refine VW.ret ?_ | refine VW.condT rfl ?_ | refine VW.condF rfl ?_ | refine VW.block ?_ | rw [then_normal] | rw [then_ret] | rw [then_exit] | rw [inB_normal] | rw [inB_ret] | rw [inB_exit, if_pos rfl] | rw [inB_exit, if_neg (by decide)]
  refine VOps.call rfl rfl rfl ((index s 39).mono ?_)
  rintro r H2 ⟨rfl, rfl⟩
  rw [idxOf8_eq]
  have hc := cst1 H2
  have h1 : ([39] : List UInt8).length = 1 := rfl
  by_cases hq : (39 : UInt8) ∈ s
  · rw [if_pos hq, Nat.zero_add]
    have hle : (s.takeWhile fun x => !q x).length < s.length := tw_lt hq rfl
    have e1 : ((s.takeWhile fun x => !(x == (39 : UInt8))).length) = (s.takeWhile fun x => !q x).length := rfl
    rw [e1]
    repeat first | refine VOps.sk rfl ?_ | (refine VOps.rd (x := .mv _) rfl (by first | exact rfl | assumption) ?_) | (refine VOps.rd rfl (by first | exact ev_add2 rfl rfl (by omega) | exact ev_sub2 rfl rfl (by omega) | exact ev_cT rfl rfl (by first | exact rfl | (dsimp only [cmpT]; omega)) | exact ev_cF rfl rfl (by first | exact rfl | (dsimp only [cmpF]; omega)) | exact ev_sT rfl rfl (by assumption) | exact ev_sF rfl rfl (by assumption) | exact ev_slst3 rfl rfl rfl (by omega) | exact ev_ixs rfl rfl (by omega) (by assumption) | exact rfl | assumption) ?_) | refine VOps.fin ?_ | refine VW.seq ?_ | refine VW.reg ?_ | refine VW.skip ?_ | refine VW.exit ?_ | refine VW.ret ?_ | refine VW.condT rfl ?_ | refine VW.condF rfl ?_ | refine VW.block ?_ | rw [then_normal] | rw [then_ret] | rw [then_exit] | rw [inB_normal] | rw [inB_ret] | rw [inB_exit, if_pos rfl] | rw [inB_exit, if_neg (by decide)]
    refine VW.dreg [H2] mixed rfl ?_
    repeat first | refine VX.sk1 rfl ?_ | (refine VX.rdc (by assumption) (x := .mv _) rfl (by first | exact rfl | assumption) ?_) | (refine VX.rdc (by assumption) rfl (by first | exact ev_add2 rfl rfl (by omega) | exact ev_sub2 rfl rfl (by omega) | exact ev_cT rfl rfl (by first | exact rfl | (dsimp only [cmpT]; omega)) | exact ev_cF rfl rfl (by first | exact rfl | (dsimp only [cmpF]; omega)) | exact ev_sT rfl rfl (by assumption) | exact ev_sF rfl rfl (by assumption) | exact ev_slst3 rfl rfl rfl (by omega) | exact ev_ixs rfl rfl (by omega) (by assumption) | exact rfl | assumption) ?_) | refine VX.fin rfl ?_
    repeat first | refine VOps.sk rfl ?_ | (refine VOps.rd (x := .mv _) rfl (by first | exact rfl | assumption) ?_) | (refine VOps.rd rfl (by first | exact ev_add2 rfl rfl (by omega) | exact ev_sub2 rfl rfl (by omega) | exact ev_cT rfl rfl (by first | exact rfl | (dsimp only [cmpT]; omega)) | exact ev_cF rfl rfl (by first | exact rfl | (dsimp only [cmpF]; omega)) | exact ev_sT rfl rfl (by assumption) | exact ev_sF rfl rfl (by assumption) | exact ev_slst3 rfl rfl rfl (by omega) | exact ev_ixs rfl rfl (by omega) (by assumption) | exact rfl | assumption) ?_) | refine VOps.fin ?_ | refine VW.seq ?_ | refine VW.reg ?_ | refine VW.skip ?_ | refine VW.exit ?_ | refine VW.ret ?_ | refine VW.condT rfl ?_ | refine VW.condF rfl ?_ | refine VW.block ?_ | rw [then_normal] | rw [then_ret] | rw [then_exit] | rw [inB_normal] | rw [inB_ret] | rw [inB_exit, if_pos rfl] | rw [inB_exit, if_neg (by decide)]
    refine ⟨.inl rfl, rfl, _, rfl, ?_, rfl⟩
    unfold cutV
    have a1 : ((s.takeWhile fun x => !q x).length : Int).toNat = (s.takeWhile fun x => !q x).length := Int.toNat_natCast _
    have a2 : (((s.takeWhile fun x => !q x).length : Int) + (([39] : List UInt8).length : Nat)).toNat = (s.takeWhile fun x => !q x).length + 1 := by rw [h1]; omega
    have a3 : ((s.length : Nat) : Int).toNat = s.length := Int.toNat_natCast _
    rw [a1, a2, a3, List.take_length, take_tw, ← List.drop_drop, drop_tw, decide_eq_true hq]
    rfl
  · rw [if_neg hq]
    repeat first | refine VOps.sk rfl ?_ | (refine VOps.rd (x := .mv _) rfl (by first | exact rfl | assumption) ?_) | (refine VOps.rd rfl (by first | exact ev_add2 rfl rfl (by omega) | exact ev_sub2 rfl rfl (by omega) | exact ev_cT rfl rfl (by first | exact rfl | (dsimp only [cmpT]; omega)) | exact ev_cF rfl rfl (by first | exact rfl | (dsimp only [cmpF]; omega)) | exact ev_sT rfl rfl (by assumption) | exact ev_sF rfl rfl (by assumption) | exact ev_slst3 rfl rfl rfl (by omega) | exact ev_ixs rfl rfl (by omega) (by assumption) | exact rfl | assumption) ?_) | refine VOps.fin ?_ | refine VW.seq ?_ | refine VW.reg ?_ | refine VW.skip ?_ | refine VW.exit ?_ | refine VW.ret ?_ | refine VW.condT rfl ?_ | refine VW.condF rfl ?_ | refine VW.block ?_ | rw [then_normal] | rw [then_ret] | rw [then_exit] | rw [inB_normal] | rw [inB_ret] | rw [inB_exit, if_pos rfl] | rw [inB_exit, if_neg (by decide)]
    obtain ⟨e1, e2⟩ := notq hq
    refine ⟨.inl rfl, rfl, _, rfl, ?_, rfl⟩
    unfold cutV
    rw [e1, e2, decide_eq_false hq]
    rfl
theorem cut {H : Hp} (s : List UInt8) (hs : s.length ≤ 4611686018427387904) : FnV Tryz.prog 32 [.str s, .str [39]] H fun r H' => r = cutV s ∧ H' = H := by
  refine FnV.enterRow ok32 (Nat.le_of_ble_eq_true rfl) fun B => ?_
  repeat first | refine VOps.sk rfl ?_ | (refine VOps.rd (x := .mv _) rfl (by first | exact rfl | assumption) ?_) | (refine VOps.rd rfl (by first | exact ev_add2 rfl rfl (by omega) | exact ev_sub2 rfl rfl (by omega) | exact ev_cT rfl rfl (by first | exact rfl | (dsimp only [cmpT]; omega)) | exact ev_cF rfl rfl (by first | exact rfl | (dsimp only [cmpF]; omega)) | exact ev_sT rfl rfl (by assumption) | exact ev_sF rfl rfl (by assumption) | exact ev_slst3 rfl rfl rfl (by omega) | exact ev_ixs rfl rfl (by omega) (by assumption) | exact rfl | assumption) ?_) | refine VOps.fin ?_ | refine VW.seq ?_ | refine VW.reg ?_ | refine VW.skip ?_ | refine VW.exit ?_ | refine VW.ret ?_ | refine VW.condT rfl ?_ | refine VW.condF rfl ?_ | refine VW.block ?_ | rw [then_normal] | rw [then_ret] | rw [then_exit] | rw [inB_normal] | rw [inB_ret] | rw [inB_exit, if_pos rfl] | rw [inB_exit, if_neg (by decide)]
  refine VOps.call rfl rfl rfl ((cut1 s hs).mono ?_)
  rintro r H2 ⟨rfl, rfl⟩
  repeat first | refine VOps.sk rfl ?_ | (refine VOps.rd (x := .mv _) rfl (by first | exact rfl | assumption) ?_) | (refine VOps.rd rfl (by first | exact ev_add2 rfl rfl (by omega) | exact ev_sub2 rfl rfl (by omega) | exact ev_cT rfl rfl (by first | exact rfl | (dsimp only [cmpT]; omega)) | exact ev_cF rfl rfl (by first | exact rfl | (dsimp only [cmpF]; omega)) | exact ev_sT rfl rfl (by assumption) | exact ev_sF rfl rfl (by assumption) | exact ev_slst3 rfl rfl rfl (by omega) | exact ev_ixs rfl rfl (by omega) (by assumption) | exact rfl | assumption) ?_) | refine VOps.fin ?_ | refine VW.seq ?_ | refine VW.reg ?_ | refine VW.skip ?_ | refine VW.exit ?_ | refine VW.ret ?_ | refine VW.condT rfl ?_ | refine VW.condF rfl ?_ | refine VW.block ?_ | rw [then_normal] | rw [then_ret] | rw [then_exit] | rw [inB_normal] | rw [inB_ret] | rw [inB_exit, if_pos rfl] | rw [inB_exit, if_neg (by decide)]
  exact ⟨.inl rfl, rfl, _, rfl, rfl, rfl⟩
theorem wrap8 (c : UInt8) : IntKind.u8.wrap (c.toNat : Int) = c.toNat := by
  have := c.toNat_lt
  simp only [IntKind.wrap, IntKind.signed, IntKind.bits]
  simp
  omega
theorem runeLo {H : Hp} {c : UInt8} (hc : c.toNat < 128) : FnV Tryz.prog 62 [.str bl5, .int .i32 c.toNat] H fun r H' => r = .int .i64 (idxOf8 c bl5 0) ∧ H' = H := by
  refine FnV.enterRow ok62 (Nat.le_of_ble_eq_true rfl) fun B => ?_
  have hw := wrap8 c
  repeat first | refine VOps.sk rfl ?_ | (refine VOps.rd (x := .mv _) rfl (by first | exact rfl | assumption) ?_) | (refine VOps.rd rfl (by first | exact ev_add2 rfl rfl (by omega) | exact ev_sub2 rfl rfl (by omega) | exact ev_cT rfl rfl (by first | exact rfl | (dsimp only [cmpT]; omega)) | exact ev_cF rfl rfl (by first | exact rfl | (dsimp only [cmpF]; omega)) | exact ev_sT rfl rfl (by assumption) | exact ev_sF rfl rfl (by assumption) | exact ev_slst3 rfl rfl rfl (by omega) | exact ev_ixs rfl rfl (by omega) (by assumption) | exact rfl | assumption) ?_) | refine VOps.fin ?_ | refine VW.seq ?_ | refine VW.reg ?_ | refine VW.skip ?_ | refine VW.exit ?_ | refine VW.ret ?_ | refine VW.condT rfl ?_ | refine VW.condF rfl ?_ | refine VW.block ?_ | rw [then_normal] | rw [then_ret] | rw [then_exit] | rw [inB_normal] | rw [inB_ret] | rw [inB_exit, if_pos rfl] | rw [inB_exit, if_neg (by decide)]
  rw [wrapK_eq, hw]
  refine VOps.call rfl rfl rfl ((ixb2 bl5 c).mono ?_)
  rintro r H2 ⟨rfl, rfl⟩
  repeat first | refine VOps.sk rfl ?_ | (refine VOps.rd (x := .mv _) rfl (by first | exact rfl | assumption) ?_) | (refine VOps.rd rfl (by first | exact ev_add2 rfl rfl (by omega) | exact ev_sub2 rfl rfl (by omega) | exact ev_cT rfl rfl (by first | exact rfl | (dsimp only [cmpT]; omega)) | exact ev_cF rfl rfl (by first | exact rfl | (dsimp only [cmpF]; omega)) | exact ev_sT rfl rfl (by assumption) | exact ev_sF rfl rfl (by assumption) | exact ev_slst3 rfl rfl rfl (by omega) | exact ev_ixs rfl rfl (by omega) (by assumption) | exact rfl | assumption) ?_) | refine VOps.fin ?_ | refine VW.seq ?_ | refine VW.reg ?_ | refine VW.skip ?_ | refine VW.exit ?_ | refine VW.ret ?_ | refine VW.condT rfl ?_ | refine VW.condF rfl ?_ | refine VW.block ?_ | rw [then_normal] | rw [then_ret] | rw [then_exit] | rw [inB_normal] | rw [inB_ret] | rw [inB_exit, if_pos rfl] | rw [inB_exit, if_neg (by decide)]
  exact ⟨.inl rfl, rfl, _, rfl, rfl, rfl⟩
theorem validR {H : Hp} {c : Nat} (hc : Utf8.valid c = true) : FnV Tryz.prog 105 [.int .i32 c] H fun r H' => r = .bool true ∧ H' = H := by
  refine FnV.enterRow ok105 (Nat.le_of_ble_eq_true rfl) fun B => ?_
  simp only [Utf8.valid, Bool.or_eq_true, Bool.and_eq_true, decide_eq_true_eq] at hc
  by_cases h1 : (c : Int) < 55296
  · repeat first | refine VOps.sk rfl ?_ | (refine VOps.rd (x := .mv _) rfl (by first | exact rfl | assumption) ?_) | (refine VOps.rd rfl (by first | exact ev_add2 rfl rfl (by omega) | exact ev_sub2 rfl rfl (by omega) | exact ev_cT rfl rfl (by first | exact rfl | (dsimp only [cmpT]; omega)) | exact ev_cF rfl rfl (by first | exact rfl | (dsimp only [cmpF]; omega)) | exact ev_sT rfl rfl (by assumption) | exact ev_sF rfl rfl (by assumption) | exact ev_slst3 rfl rfl rfl (by omega) | exact ev_ixs rfl rfl (by omega) (by assumption) | exact rfl | assumption) ?_) | refine VOps.fin ?_ | refine VW.seq ?_ | refine VW.reg ?_ | refine VW.skip ?_ | refine VW.exit ?_ | refine VW.ret ?_ | refine VW.condT rfl ?_ | refine VW.condF rfl ?_ | refine VW.block ?_ | rw [then_normal] | rw [then_ret] | rw [then_exit] | rw [inB_normal] | rw [inB_ret] | rw [inB_exit, if_pos rfl] | rw [inB_exit, if_neg (by decide)]
    exact ⟨.inl rfl, rfl, _, rfl, rfl, rfl⟩
  · have h2 : (57343 : Int) < c ∧ (c : Int) ≤ 1114111 := by omega
    repeat first | refine VOps.sk rfl ?_ | (refine VOps.rd (x := .mv _) rfl (by first | exact rfl | assumption) ?_) | (refine VOps.rd rfl (by first | exact ev_add2 rfl rfl (by omega) | exact ev_sub2 rfl rfl (by omega) | exact ev_cT rfl rfl (by first | exact rfl | (dsimp only [cmpT]; omega)) | exact ev_cF rfl rfl (by first | exact rfl | (dsimp only [cmpF]; omega)) | exact ev_sT rfl rfl (by assumption) | exact ev_sF rfl rfl (by assumption) | exact ev_slst3 rfl rfl rfl (by omega) | exact ev_ixs rfl rfl (by omega) (by assumption) | exact rfl | assumption) ?_) | refine VOps.fin ?_ | refine VW.seq ?_ | refine VW.reg ?_ | refine VW.skip ?_ | refine VW.exit ?_ | refine VW.ret ?_ | refine VW.condT rfl ?_ | refine VW.condF rfl ?_ | refine VW.block ?_ | rw [then_normal] | rw [then_ret] | rw [then_exit] | rw [inB_normal] | rw [inB_ret] | rw [inB_exit, if_pos rfl] | rw [inB_exit, if_neg (by decide)]
    exact ⟨.inl rfl, rfl, _, rfl, rfl, rfl⟩
end Tok
end Go.Proofs.YtfodpmekcddgpaaGreatDoor
