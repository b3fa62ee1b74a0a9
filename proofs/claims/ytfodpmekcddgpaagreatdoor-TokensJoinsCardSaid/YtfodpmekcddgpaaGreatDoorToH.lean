/- Split. -/
import Derived.Test.YtfodpmekcddgpaaGreatDoorToG
namespace Go.Proofs.YtfodpmekcddgpaaGreatDoor
set_option linter.unusedSimpArgs false
set_option linter.unusedVariables false
open Go Go.Wm Go.Wm.To Go.Proofs Go.RowKit
set_option maxRecDepth 100000
set_option maxHeartbeats 4000000
namespace Tok
theorem trim_trim (u : List UInt8) : (u.dropWhile isB).dropWhile isB = u.dropWhile isB := by
  induction u with
  | nil => rfl
  | cons c u ih =>
    by_cases h : isB c = true
    · rw [List.dropWhile_cons_of_pos h]; exact ih
    · rw [List.dropWhile_cons_of_neg h, List.dropWhile_cons_of_neg h]
theorem trim_le (u : List UInt8) : (u.dropWhile isB).length ≤ u.length := len_tail_drop isB u
theorem trimmed {c : UInt8} {r : List UInt8} (h : (c :: r).dropWhile isB = c :: r) : isB c = false := by
  cases hb : isB c with
  | false => rfl
  | true =>
    rw [List.dropWhile_cons_of_pos hb] at h
    have := congrArg List.length h
    have h2 := trim_le r
    simp at this
    omega
theorem take_all (s : List UInt8) : s.take ((s.length : Nat) : Int).toNat = s := by rw [Int.toNat_natCast, List.take_length]
/-- what Split hands back: a list of these texts, in new memory -/
def SplitV (L : Nat) (H : Hp) (line : List UInt8) (r : VV) (H' : Hp) : Prop := Ext L H H' ∧ Grow L 9 1 H' r (strEs (To.split line))
theorem splitF (G : Hp) (line : List UInt8) (hs : line.length ≤ 1048576) : FnV Tryz.prog 11 [.str line] (H0 ++ G) fun r H' => SplitV (H0 ++ G).length (H0 ++ G) line r H' := by
  refine FnV.enterRow ok11 (Nat.le_of_ble_eq_true rfl) fun B => ?_
  repeat first | refine VOps.sk rfl ?_ | (refine VOps.rd (x := .mv _) rfl (by first | exact rfl | assumption) ?_) | (refine VOps.rd rfl (by first | exact ev_add2 rfl rfl (by omega) | exact ev_sub2 rfl rfl (by omega) | exact ev_cT rfl rfl (by first | exact rfl | (dsimp only [cmpT]; omega)) | exact ev_cF rfl rfl (by first | exact rfl | (dsimp only [cmpF]; omega)) | exact ev_sT rfl rfl (by assumption) | exact ev_sF rfl rfl (by assumption) | exact ev_slst3 rfl rfl rfl (by omega) | exact ev_ixs rfl rfl (by omega) (by assumption) | exact rfl | assumption) ?_) | refine VOps.fin ?_ | refine VW.seq ?_ | refine VW.reg ?_ | refine VW.skip ?_ | refine VW.exit ?_ | refine VW.ret ?_ | refine VW.condT rfl ?_ | refine VW.condF rfl ?_ | refine VW.block ?_ | rw [then_normal] | rw [then_ret] | rw [then_exit] | rw [inB_normal] | rw [inB_ret] | rw [inB_exit, if_pos rfl] | rw [inB_exit, if_neg (by decide)]
  refine VOps.call rfl rfl rfl ((trim G line).mono ?_)
  rintro r H2 ⟨rfl, rfl⟩
  repeat first | refine VOps.sk rfl ?_ | (refine VOps.rd (x := .mv _) rfl (by first | exact rfl | assumption) ?_) | (refine VOps.rd rfl (by first | exact ev_add2 rfl rfl (by omega) | exact ev_sub2 rfl rfl (by omega) | exact ev_cT rfl rfl (by first | exact rfl | (dsimp only [cmpT]; omega)) | exact ev_cF rfl rfl (by first | exact rfl | (dsimp only [cmpF]; omega)) | exact ev_sT rfl rfl (by assumption) | exact ev_sF rfl rfl (by assumption) | exact ev_slst3 rfl rfl rfl (by omega) | exact ev_ixs rfl rfl (by omega) (by assumption) | exact rfl | assumption) ?_) | refine VOps.fin ?_ | refine VW.seq ?_ | refine VW.reg ?_ | refine VW.skip ?_ | refine VW.exit ?_ | refine VW.ret ?_ | refine VW.condT rfl ?_ | refine VW.condF rfl ?_ | refine VW.block ?_ | rw [then_normal] | rw [then_ret] | rw [then_exit] | rw [inB_normal] | rw [inB_ret] | rw [inB_exit, if_pos rfl] | rw [inB_exit, if_neg (by decide)]
  refine VW.loop (fun n F H' => ∃ (u : List UInt8) (ws : List (List UInt8)) (v : VV), u.length = n ∧ u.dropWhile isB = u ∧ To.split line = ws ++ To.split u ∧ ws.length + u.length ≤ line.length ∧ Cov [(0, .str u), (3, v)] F ∧ F.get dslot = none ∧ Ext (H0 ++ G).length (H0 ++ G) H' ∧ Grow (H0 ++ G).length 9 1 H' v (strEs ws)) (line.dropWhile isB).length
    ⟨line.dropWhile isB, [], .sl none 0 0, rfl, trim_trim line, by rw [split_trim]; rfl, by have := trim_le line; simpa using this, ⟨rfl, rfl, trivial⟩, rfl, Ext.refl (Nat.le_refl _), Grow.nil _ _ _ _⟩ ?_
  rintro n F H' ⟨u, ws, v, rfl, htr, hsp, hle, hc, hd, hext, hgr⟩
  refine VW.cov hc hd rfl ?_
  obtain ⟨G1, rfl⟩ := hext.garbage
  have hL : (H0 ++ G).length ≤ ((H0 ++ G) ++ G1).length := by simp
  rcases u with _ | ⟨c, r⟩
  · have h0 : ([] : List UInt8) = [] := rfl
    repeat first | refine VOps.sk rfl ?_ | (refine VOps.rd (x := .mv _) rfl (by first | exact rfl | assumption) ?_) | (refine VOps.rd rfl (by first | exact ev_add2 rfl rfl (by omega) | exact ev_sub2 rfl rfl (by omega) | exact ev_cT rfl rfl (by first | exact rfl | (dsimp only [cmpT]; omega)) | exact ev_cF rfl rfl (by first | exact rfl | (dsimp only [cmpF]; omega)) | exact ev_sT rfl rfl (by assumption) | exact ev_sF rfl rfl (by assumption) | exact ev_slst3 rfl rfl rfl (by omega) | exact ev_ixs rfl rfl (by omega) (by assumption) | exact rfl | assumption) ?_) | refine VOps.fin ?_ | refine VW.seq ?_ | refine VW.reg ?_ | refine VW.skip ?_ | refine VW.exit ?_ | refine VW.ret ?_ | refine VW.condT rfl ?_ | refine VW.condF rfl ?_ | refine VW.block ?_ | rw [then_normal] | rw [then_ret] | rw [then_exit] | rw [inB_normal] | rw [inB_ret] | rw [inB_exit, if_pos rfl] | rw [inB_exit, if_neg (by decide)]
    exact ⟨.inl rfl, rfl, _, rfl, hext, by rw [hsp, split_nil, List.append_nil]; exact hgr⟩
  have hb := trimmed htr
  have hne : ¬ (c :: r) = [] := by simp
  have h1 : (c :: r)[(0 : Int).toNat]? = some c := rfl
  have hlen : (c :: r).length = r.length + 1 := rfl
  by_cases h39 : c.toNat = 39
  · obtain rfl : c = 39 := UInt8.toNat_inj.1 h39
    repeat first | refine VOps.sk rfl ?_ | (refine VOps.rd (x := .mv _) rfl (by first | exact rfl | assumption) ?_) | (refine VOps.rd rfl (by first | exact ev_add2 rfl rfl (by omega) | exact ev_sub2 rfl rfl (by omega) | exact ev_cT rfl rfl (by first | exact rfl | (dsimp only [cmpT]; omega)) | exact ev_cF rfl rfl (by first | exact rfl | (dsimp only [cmpF]; omega)) | exact ev_sT rfl rfl (by assumption) | exact ev_sF rfl rfl (by assumption) | exact ev_slst3 rfl rfl rfl (by omega) | exact ev_ixs rfl rfl (by omega) (by assumption) | exact rfl | assumption) ?_) | refine VOps.fin ?_ | refine VW.seq ?_ | refine VW.reg ?_ | refine VW.skip ?_ | refine VW.exit ?_ | refine VW.ret ?_ | refine VW.condT rfl ?_ | refine VW.condF rfl ?_ | refine VW.block ?_ | rw [then_normal] | rw [then_ret] | rw [then_exit] | rw [inB_normal] | rw [inB_ret] | rw [inB_exit, if_pos rfl] | rw [inB_exit, if_neg (by decide)]
    have hr : List.drop (1 : Int).toNat (List.take (((39 :: r).length : Nat) : Int).toNat (39 :: r)) = r := by rw [take_all]; rfl
    rw [hr]
    refine VOps.call rfl rfl rfl ((cut r (by omega)).mono ?_)
    rintro z H2 ⟨rfl, rfl⟩
    repeat first | refine VOps.sk rfl ?_ | (refine VOps.rd (x := .mv _) rfl (by first | exact rfl | assumption) ?_) | (refine VOps.rd rfl (by first | exact ev_add2 rfl rfl (by omega) | exact ev_sub2 rfl rfl (by omega) | exact ev_cT rfl rfl (by first | exact rfl | (dsimp only [cmpT]; omega)) | exact ev_cF rfl rfl (by first | exact rfl | (dsimp only [cmpF]; omega)) | exact ev_sT rfl rfl (by assumption) | exact ev_sF rfl rfl (by assumption) | exact ev_slst3 rfl rfl rfl (by omega) | exact ev_ixs rfl rfl (by omega) (by assumption) | exact rfl | assumption) ?_) | refine VOps.fin ?_ | refine VW.seq ?_ | refine VW.reg ?_ | refine VW.skip ?_ | refine VW.exit ?_ | refine VW.ret ?_ | refine VW.condT rfl ?_ | refine VW.condF rfl ?_ | refine VW.block ?_ | rw [then_normal] | rw [then_ret] | rw [then_exit] | rw [inB_normal] | rw [inB_ret] | rw [inB_exit, if_pos rfl] | rw [inB_exit, if_neg (by decide)]
    refine VOps.ef rfl (ev_mkrow1 rfl) ?_
    rw [applyU_push]
    obtain ⟨v', us, e1, e2, e3⟩ := hgr.one hL (r.takeWhile fun x => !q x) (by omega)
    refine VOps.ef rfl (e1 _ _ _ rfl rfl) ?_
    generalize applyU (((H0 ++ G) ++ G1) ++ [Blk.row 9 .own [[.str (r.takeWhile fun x => !q x)]]]) us = H3 at e2 e3
    have hext3 : Ext (H0 ++ G).length (H0 ++ G) H3 := (hext.push _).trans e3
    obtain ⟨G3, rfl⟩ := hext3.garbage
    repeat first | refine VOps.sk rfl ?_ | (refine VOps.rd (x := .mv _) rfl (by first | exact rfl | assumption) ?_) | (refine VOps.rd rfl (by first | exact ev_add2 rfl rfl (by omega) | exact ev_sub2 rfl rfl (by omega) | exact ev_cT rfl rfl (by first | exact rfl | (dsimp only [cmpT]; omega)) | exact ev_cF rfl rfl (by first | exact rfl | (dsimp only [cmpF]; omega)) | exact ev_sT rfl rfl (by assumption) | exact ev_sF rfl rfl (by assumption) | exact ev_slst3 rfl rfl rfl (by omega) | exact ev_ixs rfl rfl (by omega) (by assumption) | exact rfl | assumption) ?_) | refine VOps.fin ?_ | refine VW.seq ?_ | refine VW.reg ?_ | refine VW.skip ?_ | refine VW.exit ?_ | refine VW.ret ?_ | refine VW.condT rfl ?_ | refine VW.condF rfl ?_ | refine VW.block ?_ | rw [then_normal] | rw [then_ret] | rw [then_exit] | rw [inB_normal] | rw [inB_ret] | rw [inB_exit, if_pos rfl] | rw [inB_exit, if_neg (by decide)]
    have hk := trim (G ++ G3) ((r.dropWhile fun x => !q x).drop 1)
    rw [← List.append_assoc] at hk
    refine VOps.call rfl rfl rfl (hk.mono ?_)
    rintro z H2 ⟨rfl, rfl⟩
    repeat first | refine VOps.sk rfl ?_ | (refine VOps.rd (x := .mv _) rfl (by first | exact rfl | assumption) ?_) | (refine VOps.rd rfl (by first | exact ev_add2 rfl rfl (by omega) | exact ev_sub2 rfl rfl (by omega) | exact ev_cT rfl rfl (by first | exact rfl | (dsimp only [cmpT]; omega)) | exact ev_cF rfl rfl (by first | exact rfl | (dsimp only [cmpF]; omega)) | exact ev_sT rfl rfl (by assumption) | exact ev_sF rfl rfl (by assumption) | exact ev_slst3 rfl rfl rfl (by omega) | exact ev_ixs rfl rfl (by omega) (by assumption) | exact rfl | assumption) ?_) | refine VOps.fin ?_ | refine VW.seq ?_ | refine VW.reg ?_ | refine VW.skip ?_ | refine VW.exit ?_ | refine VW.ret ?_ | refine VW.condT rfl ?_ | refine VW.condF rfl ?_ | refine VW.block ?_ | rw [then_normal] | rw [then_ret] | rw [then_exit] | rw [inB_normal] | rw [inB_ret] | rw [inB_exit, if_pos rfl] | rw [inB_exit, if_neg (by decide)]
    have hq1 := len_tail_drop (fun x => !q x) r
    have hq2 := trim_le ((r.dropWhile fun x => !q x).drop 1)
    rw [List.length_drop] at hq2
    refine ⟨_, ?_, (((r.dropWhile fun x => !q x).drop 1).dropWhile isB), ws ++ [r.takeWhile fun x => !q x], v', rfl, trim_trim _, ?_, ?_, ⟨rfl, rfl, trivial⟩, rfl, hext3, e2⟩
    · omega
    · rw [hsp, split_quote rfl, split_trim, List.append_assoc]; rfl
    · rw [List.length_append, List.length_singleton]; omega
  · have hsc : isS c = false := by
      simp only [isS, hb, Bool.false_or, beq_eq_false_iff_ne, ne_eq]
      rintro rfl
      exact h39 rfl
    have hk1 : 1 ≤ scan nS (c :: r) 0 := by
      have := scan_go (p := nS) (l := c :: r) (k := 0) (c := c) rfl (by simp [nS, hsc])
      rw [Nat.zero_add] at this
      have h2 := le_scan (p := nS) (l := c :: r) (k := 1)
      omega
    have hk2 : scan nS (c :: r) 0 ≤ (c :: r).length := scan_le (Nat.zero_le _)
    have hany : anyIx (c :: r) = if scan nS (c :: r) 0 < (c :: r).length then ((scan nS (c :: r) 0 : Nat) : Int) else -1 := rfl
    have hspl := split_at_word (l := c :: r) (i := 0) rfl hsc
    rw [List.drop_zero, List.drop_zero] at hspl
    have hnS : (fun x => !isS x) = nS := rfl
    rw [hnS] at hspl
    have hkk := any5 (G ++ G1) (c :: r) (by omega)
    rw [← List.append_assoc] at hkk
    rw [hany] at hkk
    generalize scan nS (c :: r) 0 = k at hk1 hk2 hkk hspl
    repeat first | refine VOps.sk rfl ?_ | (refine VOps.rd (x := .mv _) rfl (by first | exact rfl | assumption) ?_) | (refine VOps.rd rfl (by first | exact ev_add2 rfl rfl (by omega) | exact ev_sub2 rfl rfl (by omega) | exact ev_cT rfl rfl (by first | exact rfl | (dsimp only [cmpT]; omega)) | exact ev_cF rfl rfl (by first | exact rfl | (dsimp only [cmpF]; omega)) | exact ev_sT rfl rfl (by assumption) | exact ev_sF rfl rfl (by assumption) | exact ev_slst3 rfl rfl rfl (by omega) | exact ev_ixs rfl rfl (by omega) (by assumption) | exact rfl | assumption) ?_) | refine VOps.fin ?_ | refine VW.seq ?_ | refine VW.reg ?_ | refine VW.skip ?_ | refine VW.exit ?_ | refine VW.ret ?_ | refine VW.condT rfl ?_ | refine VW.condF rfl ?_ | refine VW.block ?_ | rw [then_normal] | rw [then_ret] | rw [then_exit] | rw [inB_normal] | rw [inB_ret] | rw [inB_exit, if_pos rfl] | rw [inB_exit, if_neg (by decide)]
    refine VOps.call rfl rfl rfl (hkk.mono ?_)
    rintro z H2 ⟨rfl, rfl⟩
    obtain ⟨v', us, e1, e2, e3⟩ := hgr.one hL ((c :: r).take k) (by omega)
    have hsl : ∀ (E : Fr) (K : Gt), E.get 36 = some (.str (c :: r)) → E.get 37 = some (.int .i64 k) → (VOp.slstr (.t 36) none (some (.t 37))).ev E K = some (.str ((c :: r).take k)) := fun E K a1 a2 => by
      rw [ev_slstr (x := .t 36) (lo := none) (hi := some (.t 37)) (u := 0) (v := k) a1 rfl (by simp only [Od.oev, Od.ev, a2]) (Int.le_refl _) (by omega) (by omega), Int.toNat_natCast]; rfl
    have hsr : ∀ (E : Fr) (K : Gt), E.get 41 = some (.str (c :: r)) → E.get 42 = some (.int .i64 k) → (VOp.slstr (.t 41) (some (.t 42)) none).ev E K = some (.str ((c :: r).drop k)) := fun E K a1 a2 => by
      rw [ev_slstr (x := .t 41) (lo := some (.t 42)) (hi := none) (u := k) (v := (c :: r).length) a1 (by simp only [Od.oev, Od.ev, a2]) rfl (by omega) (by omega) (by omega), Int.toNat_natCast, Int.toNat_natCast, List.take_length]
    have hext3 : Ext (H0 ++ G).length (H0 ++ G) (applyU (((H0 ++ G) ++ G1) ++ [Blk.row 9 .own [[.str ((c :: r).take k)]]]) us) := (hext.push _).trans e3
    have hq2 := trim_le ((c :: r).drop k)
    rw [List.length_drop] at hq2
    by_cases hkl : k < (c :: r).length
    · rw [if_pos hkl]
      repeat first | refine VOps.sk rfl ?_ | (refine VOps.rd (x := .mv _) rfl (by first | exact rfl | assumption) ?_) | (refine VOps.rd rfl (by first | exact ev_add2 rfl rfl (by omega) | exact ev_sub2 rfl rfl (by omega) | exact ev_cT rfl rfl (by first | exact rfl | (dsimp only [cmpT]; omega)) | exact ev_cF rfl rfl (by first | exact rfl | (dsimp only [cmpF]; omega)) | exact ev_sT rfl rfl (by assumption) | exact ev_sF rfl rfl (by assumption) | exact ev_slst3 rfl rfl rfl (by omega) | exact ev_ixs rfl rfl (by omega) (by assumption) | exact rfl | assumption) ?_) | refine VOps.fin ?_ | refine VW.seq ?_ | refine VW.reg ?_ | refine VW.skip ?_ | refine VW.exit ?_ | refine VW.ret ?_ | refine VW.condT rfl ?_ | refine VW.condF rfl ?_ | refine VW.block ?_ | rw [then_normal] | rw [then_ret] | rw [then_exit] | rw [inB_normal] | rw [inB_ret] | rw [inB_exit, if_pos rfl] | rw [inB_exit, if_neg (by decide)]
      refine VW.dreg [(H0 ++ G) ++ G1, ((H0 ++ G) ++ G1) ++ [Blk.row 9 .own [[.str ((c :: r).take k)]]], applyU (((H0 ++ G) ++ G1) ++ [Blk.row 9 .own [[.str ((c :: r).take k)]]]) us] mixed rfl ?_
      refine VX.rdp rfl (fun _ => rfl) ?_
      refine VX.rdp rfl (fun _ => rfl) ?_
      refine VX.rdp rfl (fun _ => rfl) ?_
      refine VX.rdp rfl (fun _ => hsl _ _ rfl rfl) ?_
      refine VX.ef1 rfl (ev_mkrow1 rfl) (applyU_push _ _) rfl ?_
      refine VX.ef1 rfl (e1 _ _ _ rfl rfl) rfl rfl ?_
      refine VX.rdp rfl (fun _ => rfl) ?_
      refine VX.rdp rfl (fun _ => rfl) ?_
      refine VX.rdp rfl (fun _ => hsr _ _ rfl rfl) ?_
      refine VX.rdp rfl (fun _ => rfl) ?_
      refine VX.rdp rfl (fun _ => rfl) ?_
      refine VX.fin rfl ?_
      generalize applyU (((H0 ++ G) ++ G1) ++ [Blk.row 9 .own [[.str ((c :: r).take k)]]]) us = H3 at e2 e3 hext3
      obtain ⟨G3, rfl⟩ := hext3.garbage
      repeat first | refine VOps.sk rfl ?_ | (refine VOps.rd (x := .mv _) rfl (by first | exact rfl | assumption) ?_) | (refine VOps.rd rfl (by first | exact ev_add2 rfl rfl (by omega) | exact ev_sub2 rfl rfl (by omega) | exact ev_cT rfl rfl (by first | exact rfl | (dsimp only [cmpT]; omega)) | exact ev_cF rfl rfl (by first | exact rfl | (dsimp only [cmpF]; omega)) | exact ev_sT rfl rfl (by assumption) | exact ev_sF rfl rfl (by assumption) | exact ev_slst3 rfl rfl rfl (by omega) | exact ev_ixs rfl rfl (by omega) (by assumption) | exact rfl | assumption) ?_) | refine VOps.fin ?_ | refine VW.seq ?_ | refine VW.reg ?_ | refine VW.skip ?_ | refine VW.exit ?_ | refine VW.ret ?_ | refine VW.condT rfl ?_ | refine VW.condF rfl ?_ | refine VW.block ?_ | rw [then_normal] | rw [then_ret] | rw [then_exit] | rw [inB_normal] | rw [inB_ret] | rw [inB_exit, if_pos rfl] | rw [inB_exit, if_neg (by decide)]
      have hk := trim (G ++ G3) ((c :: r).drop k)
      rw [← List.append_assoc] at hk
      refine VOps.call rfl rfl rfl (hk.mono ?_)
      rintro z H2 ⟨rfl, rfl⟩
      repeat first | refine VOps.sk rfl ?_ | (refine VOps.rd (x := .mv _) rfl (by first | exact rfl | assumption) ?_) | (refine VOps.rd rfl (by first | exact ev_add2 rfl rfl (by omega) | exact ev_sub2 rfl rfl (by omega) | exact ev_cT rfl rfl (by first | exact rfl | (dsimp only [cmpT]; omega)) | exact ev_cF rfl rfl (by first | exact rfl | (dsimp only [cmpF]; omega)) | exact ev_sT rfl rfl (by assumption) | exact ev_sF rfl rfl (by assumption) | exact ev_slst3 rfl rfl rfl (by omega) | exact ev_ixs rfl rfl (by omega) (by assumption) | exact rfl | assumption) ?_) | refine VOps.fin ?_ | refine VW.seq ?_ | refine VW.reg ?_ | refine VW.skip ?_ | refine VW.exit ?_ | refine VW.ret ?_ | refine VW.condT rfl ?_ | refine VW.condF rfl ?_ | refine VW.block ?_ | rw [then_normal] | rw [then_ret] | rw [then_exit] | rw [inB_normal] | rw [inB_ret] | rw [inB_exit, if_pos rfl] | rw [inB_exit, if_neg (by decide)]
      refine ⟨_, ?_, ((c :: r).drop k).dropWhile isB, ws ++ [(c :: r).take k], v', rfl, trim_trim _, ?_, ?_, ⟨rfl, rfl, trivial⟩, rfl, hext3, e2⟩
      · omega
      · rw [hsp, hspl, split_trim, List.append_assoc]; rfl
      · rw [List.length_append, List.length_singleton]; omega
    · have hke : ((c :: r).length : Int) = k := by omega
      rw [if_neg hkl]
      repeat first | refine VOps.sk rfl ?_ | (refine VOps.rd (x := .mv _) rfl (by first | exact rfl | assumption) ?_) | (refine VOps.rd rfl (by first | exact ev_add2 rfl rfl (by omega) | exact ev_sub2 rfl rfl (by omega) | exact ev_cT rfl rfl (by first | exact rfl | (dsimp only [cmpT]; omega)) | exact ev_cF rfl rfl (by first | exact rfl | (dsimp only [cmpF]; omega)) | exact ev_sT rfl rfl (by assumption) | exact ev_sF rfl rfl (by assumption) | exact ev_slst3 rfl rfl rfl (by omega) | exact ev_ixs rfl rfl (by omega) (by assumption) | exact rfl | assumption) ?_) | refine VOps.fin ?_ | refine VW.seq ?_ | refine VW.reg ?_ | refine VW.skip ?_ | refine VW.exit ?_ | refine VW.ret ?_ | refine VW.condT rfl ?_ | refine VW.condF rfl ?_ | refine VW.block ?_ | rw [then_normal] | rw [then_ret] | rw [then_exit] | rw [inB_normal] | rw [inB_ret] | rw [inB_exit, if_pos rfl] | rw [inB_exit, if_neg (by decide)]
      rw [hke]
      refine VW.dreg [(H0 ++ G) ++ G1, ((H0 ++ G) ++ G1) ++ [Blk.row 9 .own [[.str ((c :: r).take k)]]], applyU (((H0 ++ G) ++ G1) ++ [Blk.row 9 .own [[.str ((c :: r).take k)]]]) us] mixed rfl ?_
      refine VX.rdp rfl (fun _ => rfl) ?_
      refine VX.rdp rfl (fun _ => rfl) ?_
      refine VX.rdp rfl (fun _ => rfl) ?_
      refine VX.rdp rfl (fun _ => hsl _ _ rfl rfl) ?_
      refine VX.ef1 rfl (ev_mkrow1 rfl) (applyU_push _ _) rfl ?_
      refine VX.ef1 rfl (e1 _ _ _ rfl rfl) rfl rfl ?_
      refine VX.rdp rfl (fun _ => rfl) ?_
      refine VX.rdp rfl (fun _ => rfl) ?_
      refine VX.rdp rfl (fun _ => hsr _ _ rfl rfl) ?_
      refine VX.rdp rfl (fun _ => rfl) ?_
      refine VX.rdp rfl (fun _ => rfl) ?_
      refine VX.fin rfl ?_
      generalize applyU (((H0 ++ G) ++ G1) ++ [Blk.row 9 .own [[.str ((c :: r).take k)]]]) us = H3 at e2 e3 hext3
      obtain ⟨G3, rfl⟩ := hext3.garbage
      repeat first | refine VOps.sk rfl ?_ | (refine VOps.rd (x := .mv _) rfl (by first | exact rfl | assumption) ?_) | (refine VOps.rd rfl (by first | exact ev_add2 rfl rfl (by omega) | exact ev_sub2 rfl rfl (by omega) | exact ev_cT rfl rfl (by first | exact rfl | (dsimp only [cmpT]; omega)) | exact ev_cF rfl rfl (by first | exact rfl | (dsimp only [cmpF]; omega)) | exact ev_sT rfl rfl (by assumption) | exact ev_sF rfl rfl (by assumption) | exact ev_slst3 rfl rfl rfl (by omega) | exact ev_ixs rfl rfl (by omega) (by assumption) | exact rfl | assumption) ?_) | refine VOps.fin ?_ | refine VW.seq ?_ | refine VW.reg ?_ | refine VW.skip ?_ | refine VW.exit ?_ | refine VW.ret ?_ | refine VW.condT rfl ?_ | refine VW.condF rfl ?_ | refine VW.block ?_ | rw [then_normal] | rw [then_ret] | rw [then_exit] | rw [inB_normal] | rw [inB_ret] | rw [inB_exit, if_pos rfl] | rw [inB_exit, if_neg (by decide)]
      have hk := trim (G ++ G3) ((c :: r).drop k)
      rw [← List.append_assoc] at hk
      refine VOps.call rfl rfl rfl (hk.mono ?_)
      rintro z H2 ⟨rfl, rfl⟩
      repeat first | refine VOps.sk rfl ?_ | (refine VOps.rd (x := .mv _) rfl (by first | exact rfl | assumption) ?_) | (refine VOps.rd rfl (by first | exact ev_add2 rfl rfl (by omega) | exact ev_sub2 rfl rfl (by omega) | exact ev_cT rfl rfl (by first | exact rfl | (dsimp only [cmpT]; omega)) | exact ev_cF rfl rfl (by first | exact rfl | (dsimp only [cmpF]; omega)) | exact ev_sT rfl rfl (by assumption) | exact ev_sF rfl rfl (by assumption) | exact ev_slst3 rfl rfl rfl (by omega) | exact ev_ixs rfl rfl (by omega) (by assumption) | exact rfl | assumption) ?_) | refine VOps.fin ?_ | refine VW.seq ?_ | refine VW.reg ?_ | refine VW.skip ?_ | refine VW.exit ?_ | refine VW.ret ?_ | refine VW.condT rfl ?_ | refine VW.condF rfl ?_ | refine VW.block ?_ | rw [then_normal] | rw [then_ret] | rw [then_exit] | rw [inB_normal] | rw [inB_ret] | rw [inB_exit, if_pos rfl] | rw [inB_exit, if_neg (by decide)]
      refine ⟨_, ?_, ((c :: r).drop k).dropWhile isB, ws ++ [(c :: r).take k], v', rfl, trim_trim _, ?_, ?_, ⟨rfl, rfl, trivial⟩, rfl, hext3, e2⟩
      · omega
      · rw [hsp, hspl, split_trim, List.append_assoc]; rfl
      · rw [List.length_append, List.length_singleton]; omega
end Tok
end Go.Proofs.YtfodpmekcddgpaaGreatDoor
