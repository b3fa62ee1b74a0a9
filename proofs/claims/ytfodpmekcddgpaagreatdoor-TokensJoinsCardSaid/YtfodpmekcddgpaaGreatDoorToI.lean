/- The document's Split; are two lists of texts the same? -/
import Derived.Test.YtfodpmekcddgpaaGreatDoorToH
namespace Go.Proofs.YtfodpmekcddgpaaGreatDoor
set_option linter.unusedSimpArgs false
set_option linter.unusedVariables false
open Go Go.Wm Go.Wm.To Go.Proofs Go.RowKit
set_option maxRecDepth 100000
set_option maxHeartbeats 4000000
namespace Tok
theorem isB_cases {c : UInt8} (h : isB c = true) : c.toNat = 32 ∨ c.toNat = 9 ∨ c.toNat = 10 ∨ c.toNat = 13 := by
  simp only [isB, Bool.or_eq_true, beq_iff_eq] at h
  rcases h with ((h | h) | h) | h <;> subst h <;> decide
theorem notB {c : UInt8} (h : isB c = false) : c.toNat ≠ 32 ∧ c.toNat ≠ 9 ∧ c.toNat ≠ 10 ∧ c.toNat ≠ 13 := by
  simp only [isB, Bool.or_eq_false_iff, beq_eq_false_iff_ne, ne_eq] at h
  obtain ⟨⟨⟨h1, h2⟩, h3⟩, h4⟩ := h
  refine ⟨fun e => h1 (UInt8.toNat_inj.1 e), fun e => h2 (UInt8.toNat_inj.1 e), fun e => h3 (UInt8.toNat_inj.1 e), fun e => h4 (UInt8.toNat_inj.1 e)⟩
theorem isS_cases {c : UInt8} (h : isS c = true) : c.toNat = 32 ∨ c.toNat = 9 ∨ c.toNat = 10 ∨ c.toNat = 13 ∨ c.toNat = 39 := by
  simp only [isS, Bool.or_eq_true, beq_iff_eq] at h
  rcases h with h | h
  · have := isB_cases h; omega
  · subst h; decide
theorem notS {c : UInt8} (h : isS c = false) : c.toNat ≠ 32 ∧ c.toNat ≠ 9 ∧ c.toNat ≠ 10 ∧ c.toNat ≠ 13 ∧ c.toNat ≠ 39 := by
  simp only [isS, Bool.or_eq_false_iff, beq_eq_false_iff_ne, ne_eq] at h
  obtain ⟨h1, h2⟩ := h
  have := notB h1
  refine ⟨this.1, this.2.1, this.2.2.1, this.2.2.2, fun e => h2 (UInt8.toNat_inj.1 e)⟩
def nQ (c : UInt8) : Bool := !q c
theorem nQ_iff (c : UInt8) : nQ c = true ↔ c.toNat ≠ 39 := by
  unfold nQ q
  constructor
  · intro h e
    obtain rfl : c = 39 := UInt8.toNat_inj.1 e
    cases h
  · intro h
    simp
    rintro rfl
    exact h rfl
theorem refF (G : Hp) (line : List UInt8) (hs : line.length ≤ 1048576) : FnV Tryz.prog 12 [.str line] (H0 ++ G) fun r H' => SplitV (H0 ++ G).length (H0 ++ G) line r H' := by
  refine FnV.enterRow ok12 (Nat.le_of_ble_eq_true rfl) fun B => ?_
  repeat first | (refine VOps.rd (x := .mv _) rfl (by first | exact rfl | assumption) ?_) | refine VOps.fin ?_ | refine VW.seq ?_ | refine VW.reg ?_ | refine VW.block ?_
  refine VW.loop (fun n F H' => ∃ (i : Nat) (ws : List (List UInt8)) (v : VV), n = line.length + 1 - i ∧ i ≤ line.length + 1 ∧ To.split line = ws ++ To.split (line.drop i) ∧ ws.length ≤ i ∧ Cov [(0, .str line), (3, v), (4, .int .i64 i)] F ∧ F.get dslot = none ∧ Ext (H0 ++ G).length (H0 ++ G) H' ∧ Grow (H0 ++ G).length 9 1 H' v (strEs ws)) (line.length + 1)
    ⟨0, [], .sl none 0 0, rfl, Nat.zero_le _, rfl, Nat.le_refl _, ⟨rfl, rfl, rfl, trivial⟩, rfl, Ext.refl (Nat.le_refl _), Grow.nil _ _ _ _⟩ ?_
  rintro n F H' ⟨i, ws, v, rfl, hi, hsp, hle, hc, hd, hext, hgr⟩
  refine VW.cov hc hd rfl ?_
  obtain ⟨G1, rfl⟩ := hext.garbage
  have hL : (H0 ++ G).length ≤ ((H0 ++ G) ++ G1).length := by simp
  by_cases hlt : i < line.length
  case neg =>
    repeat first | (refine VOps.rd (x := .mv _) rfl (by first | exact rfl | assumption) ?_) | (refine VOps.rd rfl (by first | exact ev_cF rfl rfl (by first | exact rfl | (dsimp only [cmpF]; omega)) | exact rfl) ?_) | refine VOps.fin ?_ | refine VW.seq ?_ | refine VW.reg ?_ | refine VW.exit ?_ | refine VW.ret ?_ | refine VW.condF rfl ?_
    exact ⟨.inl rfl, rfl, _, rfl, hext, by rw [hsp, split_over (by omega), List.append_nil]; exact hgr⟩
  obtain ⟨c, hg⟩ : ∃ c, line[i]? = some c := ⟨_, List.getElem?_eq_getElem hlt⟩
  have hg' : line[((i : Nat) : Int).toNat]? = some c := by rw [Int.toNat_natCast]; exact hg
  cases hb : isB c
  case true =>
    have hcs := isB_cases hb
    have fin : ∀ F2 : Fr, Cov [(0, .str line), (3, v), (4, .int .i64 ((i : Int) + 1))] F2 → F2.get dslot = none → ∃ m, m < line.length + 1 - i ∧ ∃ (i' : Nat) (ws : List (List UInt8)) (v : VV), m = line.length + 1 - i' ∧ i' ≤ line.length + 1 ∧ To.split line = ws ++ To.split (line.drop i') ∧ ws.length ≤ i' ∧ Cov [(0, .str line), (3, v), (4, .int .i64 i')] F2 ∧ F2.get dslot = none ∧ Ext (H0 ++ G).length (H0 ++ G) ((H0 ++ G) ++ G1) ∧ Grow (H0 ++ G).length 9 1 ((H0 ++ G) ++ G1) v (strEs ws) := fun F2 h1 h2 =>
      ⟨_, by omega, i + 1, ws, v, rfl, by omega, by rw [hsp, split_at_blank hg hb], by omega, by rw [Int.natCast_add]; exact h1, h2, hext, hgr⟩
    rcases hcs with h1 | h1 | h1 | h1
    · repeat first | refine VOps.sk rfl ?_ | (refine VOps.rd (x := .mv _) rfl (by first | exact rfl | assumption) ?_) | (refine VOps.rd rfl (by first | exact ev_add2 rfl rfl (by omega) | exact ev_cT rfl rfl (by first | exact rfl | (dsimp only [cmpT]; omega)) | exact ev_ixs rfl rfl (by omega) (by assumption) | exact rfl) ?_) | refine VOps.fin ?_ | refine VW.seq ?_ | refine VW.reg ?_ | refine VW.skip ?_ | refine VW.exit ?_ | refine VW.condT rfl ?_ | refine VW.block ?_ | rw [then_normal] | rw [then_exit] | rw [inB_exit, if_pos rfl]
      exact fin _ ⟨rfl, rfl, rfl, trivial⟩ rfl
    · repeat first | refine VOps.sk rfl ?_ | (refine VOps.rd (x := .mv _) rfl (by first | exact rfl | assumption) ?_) | (refine VOps.rd rfl (by first | exact ev_add2 rfl rfl (by omega) | exact ev_cT rfl rfl (by first | exact rfl | (dsimp only [cmpT]; omega)) | exact ev_cF rfl rfl (by first | exact rfl | (dsimp only [cmpF]; omega)) | exact ev_ixs rfl rfl (by omega) (by assumption) | exact rfl) ?_) | refine VOps.fin ?_ | refine VW.seq ?_ | refine VW.reg ?_ | refine VW.skip ?_ | refine VW.exit ?_ | refine VW.condT rfl ?_ | refine VW.block ?_ | rw [then_normal] | rw [then_exit] | rw [inB_exit, if_pos rfl]
      exact fin _ ⟨rfl, rfl, rfl, trivial⟩ rfl
    · repeat first | refine VOps.sk rfl ?_ | (refine VOps.rd (x := .mv _) rfl (by first | exact rfl | assumption) ?_) | (refine VOps.rd rfl (by first | exact ev_add2 rfl rfl (by omega) | exact ev_cT rfl rfl (by first | exact rfl | (dsimp only [cmpT]; omega)) | exact ev_cF rfl rfl (by first | exact rfl | (dsimp only [cmpF]; omega)) | exact ev_ixs rfl rfl (by omega) (by assumption) | exact rfl) ?_) | refine VOps.fin ?_ | refine VW.seq ?_ | refine VW.reg ?_ | refine VW.skip ?_ | refine VW.exit ?_ | refine VW.condT rfl ?_ | refine VW.block ?_ | rw [then_normal] | rw [then_exit] | rw [inB_exit, if_pos rfl]
      exact fin _ ⟨rfl, rfl, rfl, trivial⟩ rfl
    · repeat first | (refine VOps.rd (x := .mv _) rfl (by first | exact rfl | assumption) ?_) | (refine VOps.rd rfl (by first | exact ev_add2 rfl rfl (by omega) | exact ev_cT rfl rfl (by first | exact rfl | (dsimp only [cmpT]; omega)) | exact ev_cF rfl rfl (by first | exact rfl | (dsimp only [cmpF]; omega)) | exact ev_ixs rfl rfl (by omega) (by assumption) | exact rfl) ?_) | refine VOps.fin ?_ | refine VW.seq ?_ | refine VW.reg ?_ | refine VW.skip ?_ | refine VW.exit ?_ | refine VW.condT rfl ?_ | refine VW.block ?_ | rw [then_normal] | rw [then_exit] | rw [inB_exit, if_pos rfl]
      exact fin _ ⟨rfl, rfl, rfl, trivial⟩ rfl
  obtain ⟨b1, b2, b3, b4⟩ := notB hb
  by_cases h39 : c.toNat = 39
  · obtain rfl : c = 39 := UInt8.toNat_inj.1 h39
    have hspl := split_at_quote hg
    have hnQ : (fun x => !q x) = nQ := rfl
    rw [hnQ] at hspl
    have hk1 : i + 1 ≤ scan nQ line (i + 1) := le_scan
    have hk2 : scan nQ line (i + 1) ≤ line.length := scan_le (by omega)
    repeat first | (refine VOps.rd (x := .mv _) rfl (by first | exact rfl | assumption) ?_) | (refine VOps.rd rfl (by first | exact ev_add2 rfl rfl (by omega) | exact ev_cT rfl rfl (by first | exact rfl | (dsimp only [cmpT]; omega)) | exact ev_cF rfl rfl (by first | exact rfl | (dsimp only [cmpF]; omega)) | exact ev_ixs rfl rfl (by omega) (by assumption) | exact rfl) ?_) | refine VOps.fin ?_ | refine VW.seq ?_ | refine VW.reg ?_ | refine VW.skip ?_ | refine VW.condT rfl ?_ | refine VW.condF rfl ?_ | refine VW.block ?_
    refine VW.loop (fun n F H' => ∃ k : Nat, n = line.length - k ∧ k ≤ line.length ∧ scan nQ line k = scan nQ line (i + 1) ∧ Cov [(0, .str line), (3, v), (4, .int .i64 i), (6, .int .i64 k)] F ∧ F.get dslot = none ∧ H' = (H0 ++ G) ++ G1) (line.length - (i + 1)) ⟨i + 1, rfl, by omega, rfl, ⟨rfl, rfl, rfl, by rw [Int.natCast_add]; rfl, trivial⟩, rfl, rfl⟩ ?_
    rintro n F H' ⟨k, rfl, hk, hsc, hc2, hd2, rfl⟩
    refine VW.cov hc2 hd2 rfl ?_
    by_cases hkl : k < line.length
    · obtain ⟨c2, hg2⟩ : ∃ c, line[k]? = some c := ⟨_, List.getElem?_eq_getElem hkl⟩
      have hg2' : line[((k : Nat) : Int).toNat]? = some c2 := by rw [Int.toNat_natCast]; exact hg2
      by_cases hq2 : c2.toNat = 39
      · have hke : k = scan nQ line (i + 1) := by
          rw [← hsc, scan_stop hg2]
          cases hx : nQ c2 with
          | false => rfl
          | true => exact absurd hq2 ((nQ_iff c2).1 hx)
        rw [← hke] at hspl hk1
        obtain ⟨v', us, e1, e2, e3⟩ := hgr.one hL ((line.take k).drop (i + 1)) (by omega)
        have hext3 : Ext (H0 ++ G).length (H0 ++ G) (applyU (((H0 ++ G) ++ G1) ++ [Blk.row 9 .own [[.str ((line.take k).drop (i + 1))]]]) us) := (hext.push _).trans e3
        have hcv : (line.take ((k : Nat) : Int).toNat).drop ((i : Int) + 1).toNat = (line.take k).drop (i + 1) := by rw [Int.toNat_natCast, show ((i : Int) + 1).toNat = i + 1 by omega]
        clear hsc
        repeat first | (refine VOps.rd (x := .mv _) rfl (by first | exact rfl | assumption) ?_) | (refine VOps.rd rfl (by first | exact ev_add2 rfl rfl (by omega) | exact ev_cT rfl rfl (by first | exact rfl | (dsimp only [cmpT]; omega)) | exact ev_cF rfl rfl (by first | exact rfl | (dsimp only [cmpF]; omega)) | exact ev_slst3 rfl rfl rfl (by omega) | exact ev_ixs rfl rfl (by omega) (by assumption) | exact rfl) ?_) | refine VOps.fin ?_ | refine VW.seq ?_ | refine VW.reg ?_ | refine VW.exit ?_ | refine VW.condF rfl ?_
        rw [hcv]
        refine VOps.ef rfl (ev_mkrow1 rfl) ?_
        rw [applyU_push]
        refine VOps.ef rfl (e1 _ _ _ rfl rfl) ?_
        generalize applyU (((H0 ++ G) ++ G1) ++ [Blk.row 9 .own [[.str ((line.take k).drop (i + 1))]]]) us = H3 at e2 e3 hext3
        repeat first | (refine VOps.rd (x := .mv _) rfl (by first | exact rfl | assumption) ?_) | refine VOps.rd rfl (ev_add2 rfl rfl (by omega)) ?_ | refine VOps.fin ?_ | refine VW.seq ?_ | refine VW.reg ?_ | refine VW.exit ?_ | rw [then_normal] | rw [then_exit] | rw [inB_exit, if_pos rfl]
        exact ⟨_, by omega, k + 1, ws ++ [(line.take k).drop (i + 1)], v', rfl, by omega, by rw [hsp, hspl, List.append_assoc]; rfl, by rw [List.length_append, List.length_singleton]; omega, ⟨rfl, rfl, by rw [Int.natCast_add]; rfl, trivial⟩, rfl, hext3, e2⟩
      · repeat first | (refine VOps.rd (x := .mv _) rfl (by first | exact rfl | assumption) ?_) | (refine VOps.rd rfl (by first | exact ev_add2 rfl rfl (by omega) | exact ev_cT rfl rfl (by first | exact rfl | (dsimp only [cmpT]; omega)) | exact ev_ixs rfl rfl (by omega) (by assumption) | exact rfl) ?_) | refine VOps.fin ?_ | refine VW.seq ?_ | refine VW.reg ?_ | refine VW.skip ?_ | refine VW.condT rfl ?_ | refine VW.block ?_ | rw [then_normal] | rw [inB_normal]
        refine ⟨_, by omega, k + 1, rfl, by omega, ?_, ⟨rfl, rfl, rfl, by rw [Int.natCast_add]; rfl, trivial⟩, rfl, rfl⟩
        rw [scan_go hg2 ((nQ_iff c2).2 hq2)]; exact hsc
    · obtain rfl : k = line.length := by omega
      have hke : line.length = scan nQ line (i + 1) := by rw [← hsc, scan_end (Nat.le_refl _)]
      generalize hkk : line.length = k at hkl hke hk hsc
      rw [← hke] at hspl hk1
      obtain ⟨v', us, e1, e2, e3⟩ := hgr.one hL ((line.take k).drop (i + 1)) (by omega)
      have hext3 : Ext (H0 ++ G).length (H0 ++ G) (applyU (((H0 ++ G) ++ G1) ++ [Blk.row 9 .own [[.str ((line.take k).drop (i + 1))]]]) us) := (hext.push _).trans e3
      have hcv : (line.take ((k : Nat) : Int).toNat).drop ((i : Int) + 1).toNat = (line.take k).drop (i + 1) := by rw [Int.toNat_natCast, show ((i : Int) + 1).toNat = i + 1 by omega]
      clear hsc
      repeat first | refine VOps.sk rfl ?_ | (refine VOps.rd (x := .mv _) rfl (by first | exact rfl | assumption) ?_) | (refine VOps.rd rfl (by first | exact ev_add2 rfl rfl (by omega) | exact ev_cF rfl rfl (by first | exact rfl | (dsimp only [cmpF]; omega)) | exact ev_slst3 rfl rfl rfl (by omega) | exact rfl) ?_) | refine VOps.fin ?_ | refine VW.seq ?_ | refine VW.reg ?_ | refine VW.exit ?_ | refine VW.condF rfl ?_
      rw [hcv]
      refine VOps.ef rfl (ev_mkrow1 rfl) ?_
      rw [applyU_push]
      refine VOps.ef rfl (e1 _ _ _ rfl rfl) ?_
      generalize applyU (((H0 ++ G) ++ G1) ++ [Blk.row 9 .own [[.str ((line.take k).drop (i + 1))]]]) us = H3 at e2 e3 hext3
      repeat first | (refine VOps.rd (x := .mv _) rfl (by first | exact rfl | assumption) ?_) | refine VOps.rd rfl (ev_add2 rfl rfl (by omega)) ?_ | refine VOps.fin ?_ | refine VW.seq ?_ | refine VW.reg ?_ | refine VW.exit ?_ | rw [then_normal] | rw [then_exit] | rw [inB_exit, if_pos rfl]
      exact ⟨_, by omega, k + 1, ws ++ [(line.take k).drop (i + 1)], v', rfl, by omega, by rw [hsp, hspl, List.append_assoc]; rfl, by rw [List.length_append, List.length_singleton]; omega, ⟨rfl, rfl, by rw [Int.natCast_add]; rfl, trivial⟩, rfl, hext3, e2⟩
  · have hsc0 : isS c = false := by
      simp only [isS, hb, Bool.false_or, beq_eq_false_iff_ne, ne_eq]
      rintro rfl
      exact h39 rfl
    have hspl := split_at_word hg hsc0
    have hnS : (fun x => !isS x) = nS := rfl
    rw [hnS] at hspl
    have hk1 : i ≤ scan nS line i := le_scan
    have hk3 : i + 1 ≤ scan nS line i := by
      have := scan_go (p := nS) hg (by simp [nS, hsc0])
      have h2 := le_scan (p := nS) (l := line) (k := i + 1)
      omega
    have hk2 : scan nS line i ≤ line.length := scan_le (by omega)
    repeat first | (refine VOps.rd (x := .mv _) rfl (by first | exact rfl | assumption) ?_) | (refine VOps.rd rfl (by first | exact ev_cT rfl rfl (by first | exact rfl | (dsimp only [cmpT]; omega)) | exact ev_cF rfl rfl (by first | exact rfl | (dsimp only [cmpF]; omega)) | exact ev_ixs rfl rfl (by omega) (by assumption) | exact rfl) ?_) | refine VOps.fin ?_ | refine VW.seq ?_ | refine VW.reg ?_ | refine VW.skip ?_ | refine VW.condT rfl ?_ | refine VW.condF rfl ?_ | refine VW.block ?_
    refine VW.loop (fun n F H' => ∃ k : Nat, n = line.length - k ∧ k ≤ line.length ∧ scan nS line k = scan nS line i ∧ Cov [(0, .str line), (3, v), (4, .int .i64 i), (6, .int .i64 k)] F ∧ F.get dslot = none ∧ H' = (H0 ++ G) ++ G1) (line.length - i) ⟨i, rfl, by omega, rfl, ⟨rfl, rfl, rfl, rfl, trivial⟩, rfl, rfl⟩ ?_
    rintro n F H' ⟨k, rfl, hk, hsc, hc2, hd2, rfl⟩
    refine VW.cov hc2 hd2 rfl ?_
    by_cases hkl : k < line.length
    · obtain ⟨c2, hg2⟩ : ∃ c, line[k]? = some c := ⟨_, List.getElem?_eq_getElem hkl⟩
      have hg2' : line[((k : Nat) : Int).toNat]? = some c2 := by rw [Int.toNat_natCast]; exact hg2
      cases hS : isS c2
      · obtain ⟨s1, s2, s3, s4, s5⟩ := notS hS
        repeat first | (refine VOps.rd (x := .mv _) rfl (by first | exact rfl | assumption) ?_) | (refine VOps.rd rfl (by first | exact ev_add2 rfl rfl (by omega) | exact ev_cT rfl rfl (by first | exact rfl | (dsimp only [cmpT]; omega)) | exact ev_ixs rfl rfl (by omega) (by assumption) | exact rfl) ?_) | refine VOps.fin ?_ | refine VW.seq ?_ | refine VW.reg ?_ | refine VW.skip ?_ | refine VW.condT rfl ?_ | refine VW.block ?_ | rw [then_normal] | rw [inB_normal]
        refine ⟨_, by omega, k + 1, rfl, by omega, ?_, ⟨rfl, rfl, rfl, by rw [Int.natCast_add]; rfl, trivial⟩, rfl, rfl⟩
        rw [scan_go hg2 (by simp [nS, hS])]; exact hsc
      · have hke : k = scan nS line i := by rw [← hsc, scan_stop hg2 (by simp [nS, hS])]
        rw [← hke] at hspl hk1 hk3
        obtain ⟨v', us, e1, e2, e3⟩ := hgr.one hL ((line.take k).drop i) (by omega)
        have hext3 : Ext (H0 ++ G).length (H0 ++ G) (applyU (((H0 ++ G) ++ G1) ++ [Blk.row 9 .own [[.str ((line.take k).drop i)]]]) us) := (hext.push _).trans e3
        have hcs := isS_cases hS
        rcases hcs with h1 | h1 | h1 | h1 | h1
        · have hcv : (line.take ((k : Nat) : Int).toNat).drop ((i : Nat) : Int).toNat = (line.take k).drop i := by rw [Int.toNat_natCast, Int.toNat_natCast]
          clear hsc
          repeat first | refine VOps.sk rfl ?_ | (refine VOps.rd (x := .mv _) rfl (by first | exact rfl | assumption) ?_) | (refine VOps.rd rfl (by first | exact ev_cT rfl rfl (by first | exact rfl | (dsimp only [cmpT]; omega)) | exact ev_cF rfl rfl (by first | exact rfl | (dsimp only [cmpF]; omega)) | exact ev_slst3 rfl rfl rfl (by omega) | exact ev_ixs rfl rfl (by omega) (by assumption) | exact rfl) ?_) | refine VOps.fin ?_ | refine VW.seq ?_ | refine VW.reg ?_ | refine VW.exit ?_ | refine VW.condF rfl ?_
          rw [hcv]
          refine VOps.ef rfl (ev_mkrow1 rfl) ?_
          rw [applyU_push]
          refine VOps.ef rfl (e1 _ _ _ rfl rfl) ?_
          generalize applyU (((H0 ++ G) ++ G1) ++ [Blk.row 9 .own [[.str ((line.take k).drop i)]]]) us = H3 at e2 e3 hext3
          repeat first | (refine VOps.rd (x := .mv _) rfl (by first | exact rfl | assumption) ?_) | refine VOps.fin ?_ | refine VW.reg ?_ | rw [then_normal] | rw [inB_normal]
          exact ⟨_, by omega, k, ws ++ [(line.take k).drop i], v', rfl, by omega, by rw [hsp, hspl, List.append_assoc]; rfl, by rw [List.length_append, List.length_singleton]; omega, ⟨rfl, rfl, rfl, trivial⟩, rfl, hext3, e2⟩
        · have hcv : (line.take ((k : Nat) : Int).toNat).drop ((i : Nat) : Int).toNat = (line.take k).drop i := by rw [Int.toNat_natCast, Int.toNat_natCast]
          clear hsc
          repeat first | refine VOps.sk rfl ?_ | (refine VOps.rd (x := .mv _) rfl (by first | exact rfl | assumption) ?_) | (refine VOps.rd rfl (by first | exact ev_cT rfl rfl (by first | exact rfl | (dsimp only [cmpT]; omega)) | exact ev_cF rfl rfl (by first | exact rfl | (dsimp only [cmpF]; omega)) | exact ev_slst3 rfl rfl rfl (by omega) | exact ev_ixs rfl rfl (by omega) (by assumption) | exact rfl) ?_) | refine VOps.fin ?_ | refine VW.seq ?_ | refine VW.reg ?_ | refine VW.exit ?_ | refine VW.condF rfl ?_
          rw [hcv]
          refine VOps.ef rfl (ev_mkrow1 rfl) ?_
          rw [applyU_push]
          refine VOps.ef rfl (e1 _ _ _ rfl rfl) ?_
          generalize applyU (((H0 ++ G) ++ G1) ++ [Blk.row 9 .own [[.str ((line.take k).drop i)]]]) us = H3 at e2 e3 hext3
          repeat first | (refine VOps.rd (x := .mv _) rfl (by first | exact rfl | assumption) ?_) | refine VOps.fin ?_ | refine VW.reg ?_ | rw [then_normal] | rw [inB_normal]
          exact ⟨_, by omega, k, ws ++ [(line.take k).drop i], v', rfl, by omega, by rw [hsp, hspl, List.append_assoc]; rfl, by rw [List.length_append, List.length_singleton]; omega, ⟨rfl, rfl, rfl, trivial⟩, rfl, hext3, e2⟩
        · have hcv : (line.take ((k : Nat) : Int).toNat).drop ((i : Nat) : Int).toNat = (line.take k).drop i := by rw [Int.toNat_natCast, Int.toNat_natCast]
          clear hsc
          repeat first | refine VOps.sk rfl ?_ | (refine VOps.rd (x := .mv _) rfl (by first | exact rfl | assumption) ?_) | (refine VOps.rd rfl (by first | exact ev_cT rfl rfl (by first | exact rfl | (dsimp only [cmpT]; omega)) | exact ev_cF rfl rfl (by first | exact rfl | (dsimp only [cmpF]; omega)) | exact ev_slst3 rfl rfl rfl (by omega) | exact ev_ixs rfl rfl (by omega) (by assumption) | exact rfl) ?_) | refine VOps.fin ?_ | refine VW.seq ?_ | refine VW.reg ?_ | refine VW.exit ?_ | refine VW.condF rfl ?_
          rw [hcv]
          refine VOps.ef rfl (ev_mkrow1 rfl) ?_
          rw [applyU_push]
          refine VOps.ef rfl (e1 _ _ _ rfl rfl) ?_
          generalize applyU (((H0 ++ G) ++ G1) ++ [Blk.row 9 .own [[.str ((line.take k).drop i)]]]) us = H3 at e2 e3 hext3
          repeat first | (refine VOps.rd (x := .mv _) rfl (by first | exact rfl | assumption) ?_) | refine VOps.fin ?_ | refine VW.reg ?_ | rw [then_normal] | rw [inB_normal]
          exact ⟨_, by omega, k, ws ++ [(line.take k).drop i], v', rfl, by omega, by rw [hsp, hspl, List.append_assoc]; rfl, by rw [List.length_append, List.length_singleton]; omega, ⟨rfl, rfl, rfl, trivial⟩, rfl, hext3, e2⟩
        · have hcv : (line.take ((k : Nat) : Int).toNat).drop ((i : Nat) : Int).toNat = (line.take k).drop i := by rw [Int.toNat_natCast, Int.toNat_natCast]
          clear hsc
          repeat first | refine VOps.sk rfl ?_ | (refine VOps.rd (x := .mv _) rfl (by first | exact rfl | assumption) ?_) | (refine VOps.rd rfl (by first | exact ev_cT rfl rfl (by first | exact rfl | (dsimp only [cmpT]; omega)) | exact ev_cF rfl rfl (by first | exact rfl | (dsimp only [cmpF]; omega)) | exact ev_slst3 rfl rfl rfl (by omega) | exact ev_ixs rfl rfl (by omega) (by assumption) | exact rfl) ?_) | refine VOps.fin ?_ | refine VW.seq ?_ | refine VW.reg ?_ | refine VW.exit ?_ | refine VW.condF rfl ?_
          rw [hcv]
          refine VOps.ef rfl (ev_mkrow1 rfl) ?_
          rw [applyU_push]
          refine VOps.ef rfl (e1 _ _ _ rfl rfl) ?_
          generalize applyU (((H0 ++ G) ++ G1) ++ [Blk.row 9 .own [[.str ((line.take k).drop i)]]]) us = H3 at e2 e3 hext3
          repeat first | (refine VOps.rd (x := .mv _) rfl (by first | exact rfl | assumption) ?_) | refine VOps.fin ?_ | refine VW.reg ?_ | rw [then_normal] | rw [inB_normal]
          exact ⟨_, by omega, k, ws ++ [(line.take k).drop i], v', rfl, by omega, by rw [hsp, hspl, List.append_assoc]; rfl, by rw [List.length_append, List.length_singleton]; omega, ⟨rfl, rfl, rfl, trivial⟩, rfl, hext3, e2⟩
        · have hcv : (line.take ((k : Nat) : Int).toNat).drop ((i : Nat) : Int).toNat = (line.take k).drop i := by rw [Int.toNat_natCast, Int.toNat_natCast]
          clear hsc
          repeat first | (refine VOps.rd (x := .mv _) rfl (by first | exact rfl | assumption) ?_) | (refine VOps.rd rfl (by first | exact ev_cT rfl rfl (by first | exact rfl | (dsimp only [cmpT]; omega)) | exact ev_cF rfl rfl (by first | exact rfl | (dsimp only [cmpF]; omega)) | exact ev_slst3 rfl rfl rfl (by omega) | exact ev_ixs rfl rfl (by omega) (by assumption) | exact rfl) ?_) | refine VOps.fin ?_ | refine VW.seq ?_ | refine VW.reg ?_ | refine VW.exit ?_ | refine VW.condF rfl ?_
          rw [hcv]
          refine VOps.ef rfl (ev_mkrow1 rfl) ?_
          rw [applyU_push]
          refine VOps.ef rfl (e1 _ _ _ rfl rfl) ?_
          generalize applyU (((H0 ++ G) ++ G1) ++ [Blk.row 9 .own [[.str ((line.take k).drop i)]]]) us = H3 at e2 e3 hext3
          repeat first | (refine VOps.rd (x := .mv _) rfl (by first | exact rfl | assumption) ?_) | refine VOps.fin ?_ | refine VW.reg ?_ | rw [then_normal] | rw [inB_normal]
          exact ⟨_, by omega, k, ws ++ [(line.take k).drop i], v', rfl, by omega, by rw [hsp, hspl, List.append_assoc]; rfl, by rw [List.length_append, List.length_singleton]; omega, ⟨rfl, rfl, rfl, trivial⟩, rfl, hext3, e2⟩
    · obtain rfl : k = line.length := by omega
      have hke : line.length = scan nS line i := by rw [← hsc, scan_end (Nat.le_refl _)]
      generalize hkk : line.length = k at hkl hke hk hsc
      rw [← hke] at hspl hk1 hk3
      obtain ⟨v', us, e1, e2, e3⟩ := hgr.one hL ((line.take k).drop i) (by omega)
      have hext3 : Ext (H0 ++ G).length (H0 ++ G) (applyU (((H0 ++ G) ++ G1) ++ [Blk.row 9 .own [[.str ((line.take k).drop i)]]]) us) := (hext.push _).trans e3
      have hcv : (line.take ((k : Nat) : Int).toNat).drop ((i : Nat) : Int).toNat = (line.take k).drop i := by rw [Int.toNat_natCast, Int.toNat_natCast]
      clear hsc
      repeat first | refine VOps.sk rfl ?_ | (refine VOps.rd (x := .mv _) rfl (by first | exact rfl | assumption) ?_) | (refine VOps.rd rfl (by first | exact ev_cF rfl rfl (by first | exact rfl | (dsimp only [cmpF]; omega)) | exact ev_slst3 rfl rfl rfl (by omega) | exact rfl) ?_) | refine VOps.fin ?_ | refine VW.seq ?_ | refine VW.reg ?_ | refine VW.exit ?_ | refine VW.condF rfl ?_
      rw [hcv]
      refine VOps.ef rfl (ev_mkrow1 rfl) ?_
      rw [applyU_push]
      refine VOps.ef rfl (e1 _ _ _ rfl rfl) ?_
      generalize applyU (((H0 ++ G) ++ G1) ++ [Blk.row 9 .own [[.str ((line.take k).drop i)]]]) us = H3 at e2 e3 hext3
      repeat first | (refine VOps.rd (x := .mv _) rfl (by first | exact rfl | assumption) ?_) | refine VOps.fin ?_ | refine VW.reg ?_ | rw [then_normal] | rw [inB_normal]
      exact ⟨_, by omega, k, ws ++ [(line.take k).drop i], v', rfl, by omega, by rw [hsp, hspl, List.append_assoc]; rfl, by rw [List.length_append, List.length_singleton]; omega, ⟨rfl, rfl, rfl, trivial⟩, rfl, hext3, e2⟩
end Tok
end Go.Proofs.YtfodpmekcddgpaaGreatDoor
