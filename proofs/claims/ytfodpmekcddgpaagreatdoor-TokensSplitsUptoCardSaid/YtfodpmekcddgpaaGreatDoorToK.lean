/- TokensSplits over the canonical heap. -/
import Derived.Test.YtfodpmekcddgpaaGreatDoorToJ
import Derived.Test.YtfodpmekcddgpaaGreatDoorPTe
namespace Go.Proofs.YtfodpmekcddgpaaGreatDoor
set_option linter.unusedSimpArgs false
set_option linter.unusedVariables false
open Go Go.Wm Go.Wm.To Go.Proofs Go.RowKit
set_option maxRecDepth 100000
set_option maxHeartbeats 4000000
namespace Tok
theorem awakeOk (G : Hp) : FnV Tryz.prog 14 [] (H0 ++ G) fun r H' => r = .bool true ∧ H' = H0 ++ G := by
  obtain ⟨H2, _, h⟩ := cut6 H0 (rep_of [] rfl (by kernel_rfl) (by kernel_rfl) (by kernel_rfl) (by kernel_rfl) (tree4 _ _ _ _))
  exact FnV.aside rfl ro0 (by decide) (h.mono fun r H' hr => hr.1) G
theorem ev_storeAt {E : Fr} {H : Hp} {n b k : Nat} {t : TypeId} {md : Wm.Mode} {es : List (List VV)} {z : VV} {x : Od} {y : List UInt8} (hx : x.ev E = some (.ptr (some ⟨b, k, 0⟩))) (hb : H[b]? = some (.row t md es)) (hm : md ≠ .ro) (he : es[k]? = some [z]) :
    (VEf.store 1 x (.c (.str y))).ev E H.g n = some (.undef, [(b, .row t md (es.set k [.str y]))]) := by
  have hb' : H.g b = some (.row t md es) := hb
  simp only [VEf.ev, hx, show Od.ev E (.c (.str y)) = some (.str y) from rfl]
  simp [stc, hb', hm, he, VV.defd, VV.cells, okCells, VV.cell, upd]
theorem sl_set {H : Hp} {p : Option PA} {z b : Nat} {es : List (List VV)} (h : Sl H p z es) (hb : ∀ q, p = some q → q.blk ≠ b) (x : Blk) : Sl (H.set b x) p z es := by
  rcases h with h | ⟨c, i, md, t, rows, rfl, h2, h3, h4⟩
  · exact .inl h
  · exact .inr ⟨c, i, md, t, rows, rfl, by rw [List.getElem?_set_ne (Ne.symm (hb _ rfl))]; exact h2, h3, h4⟩
/-- a list of texts that is one's own; what it holds does not matter -/
def Mine (L m : Nat) (p1 p2 : Option PA) (H : Hp) : Prop := m = 0 ∨ ∃ b rows, p1 = some ⟨b, 0, 0⟩ ∧ L ≤ b ∧ H[b]? = some (.row 9 .loose rows) ∧ rows.length = m ∧ (∀ e ∈ rows, ∃ z, e = [z]) ∧ ∀ q, p2 = some q → q.blk ≠ b
theorem law4 (G : Hp) (line : List UInt8) (hs : line.length ≤ 1048576) : FnV Tryz.prog 4 [.str line] (H0 ++ G) fun r _ => r = .bool true := by
  refine FnV.enterRow ok4 (Nat.le_of_ble_eq_true rfl) fun B => ?_
  have hcount : (To.split line).length ≤ line.length := split_length line
  repeat first | refine VOps.sk rfl ?_ | (refine VOps.rd (x := .mv _) rfl (by first | exact rfl | assumption) ?_) | (refine VOps.rd rfl (by first | exact ev_add2 rfl rfl (by omega) | exact ev_sub2 rfl rfl (by omega) | exact ev_cT rfl rfl (by first | exact rfl | (dsimp only [cmpT]; omega)) | exact ev_cF rfl rfl (by first | exact rfl | (dsimp only [cmpF]; omega)) | exact ev_sT rfl rfl (by assumption) | exact ev_sF rfl rfl (by assumption) | exact ev_slst3 rfl rfl rfl (by omega) | exact ev_ixs rfl rfl (by omega) (by assumption) | exact rfl | assumption) ?_) | refine VOps.fin ?_ | refine VW.seq ?_ | refine VW.reg ?_ | refine VW.skip ?_ | refine VW.exit ?_ | refine VW.ret ?_ | refine VW.condT rfl ?_ | refine VW.condF rfl ?_ | refine VW.block ?_ | rw [then_normal] | rw [then_ret] | rw [then_exit] | rw [inB_normal] | rw [inB_ret] | rw [inB_exit, if_pos rfl] | rw [inB_exit, if_neg (by decide)]
  refine VOps.call rfl rfl rfl ((splitF G line hs).mono ?_)
  rintro v1 H1 ⟨x1, g1⟩
  obtain ⟨G1, rfl⟩ := x1.garbage
  repeat first | refine VOps.sk rfl ?_ | (refine VOps.rd (x := .mv _) rfl (by first | exact rfl | assumption) ?_) | (refine VOps.rd rfl (by first | exact ev_add2 rfl rfl (by omega) | exact ev_sub2 rfl rfl (by omega) | exact ev_cT rfl rfl (by first | exact rfl | (dsimp only [cmpT]; omega)) | exact ev_cF rfl rfl (by first | exact rfl | (dsimp only [cmpF]; omega)) | exact ev_sT rfl rfl (by assumption) | exact ev_sF rfl rfl (by assumption) | exact ev_slst3 rfl rfl rfl (by omega) | exact ev_ixs rfl rfl (by omega) (by assumption) | exact rfl | assumption) ?_) | refine VOps.fin ?_ | refine VW.seq ?_ | refine VW.reg ?_ | refine VW.skip ?_ | refine VW.exit ?_ | refine VW.ret ?_ | refine VW.condT rfl ?_ | refine VW.condF rfl ?_ | refine VW.block ?_ | rw [then_normal] | rw [then_ret] | rw [then_exit] | rw [inB_normal] | rw [inB_ret] | rw [inB_exit, if_pos rfl] | rw [inB_exit, if_neg (by decide)]
  have h12 := refF (G ++ G1) line hs
  rw [← List.append_assoc] at h12
  refine VOps.call rfl rfl rfl (h12.mono ?_)
  rintro v2 H2 ⟨x2, g2⟩
  obtain ⟨p1, e1, s1, b1⟩ := g1.sl
  obtain ⟨p2, e2, s2, b2⟩ := g2.sl
  subst e1 e2
  have s1' := x2.sl s1
  have hl := strEs_len (To.split line)
  rw [hl]
  repeat first | refine VOps.sk rfl ?_ | (refine VOps.rd (x := .mv _) rfl (by first | exact rfl | assumption) ?_) | (refine VOps.rd rfl (by first | exact ev_add2 rfl rfl (by omega) | exact ev_sub2 rfl rfl (by omega) | exact ev_cT rfl rfl (by first | exact rfl | (dsimp only [cmpT]; omega)) | exact ev_cF rfl rfl (by first | exact rfl | (dsimp only [cmpF]; omega)) | exact ev_sT rfl rfl (by assumption) | exact ev_sF rfl rfl (by assumption) | exact ev_slst3 rfl rfl rfl (by omega) | exact ev_ixs rfl rfl (by omega) (by assumption) | exact rfl | assumption) ?_) | refine VOps.fin ?_ | refine VW.seq ?_ | refine VW.reg ?_ | refine VW.skip ?_ | refine VW.exit ?_ | refine VW.ret ?_ | refine VW.condT rfl ?_ | refine VW.condF rfl ?_ | refine VW.block ?_ | rw [then_normal] | rw [then_ret] | rw [then_exit] | rw [inB_normal] | rw [inB_ret] | rw [inB_exit, if_pos rfl] | rw [inB_exit, if_neg (by decide)]
  refine VOps.call rfl rfl rfl ((texts s1' s2 (by omega)).mono ?_)
  rintro r H3 ⟨rfl, rfl⟩
  repeat first | refine VOps.sk rfl ?_ | (refine VOps.rd (x := .mv _) rfl (by first | exact rfl | assumption) ?_) | (refine VOps.rd rfl (by first | exact ev_add2 rfl rfl (by omega) | exact ev_sub2 rfl rfl (by omega) | exact ev_cT rfl rfl (by first | exact rfl | (dsimp only [cmpT]; omega)) | exact ev_cF rfl rfl (by first | exact rfl | (dsimp only [cmpF]; omega)) | exact ev_sT rfl rfl (by assumption) | exact ev_sF rfl rfl (by assumption) | exact ev_slst3 rfl rfl rfl (by omega) | exact ev_ixs rfl rfl (by omega) (by assumption) | exact rfl | assumption) ?_) | refine VOps.fin ?_ | refine VW.seq ?_ | refine VW.reg ?_ | refine VW.skip ?_ | refine VW.exit ?_ | refine VW.ret ?_ | refine VW.condT rfl ?_ | refine VW.condF rfl ?_ | refine VW.block ?_ | rw [then_normal] | rw [then_ret] | rw [then_exit] | rw [inB_normal] | rw [inB_ret] | rw [inB_exit, if_pos rfl] | rw [inB_exit, if_neg (by decide)]
  -- the second list lies above the first
  have key : ∀ (F : Fr) (Hx : Hp), Cov [(0, .str line), (4, .sl p2 (To.split line).length (To.split line).length)] F → F.get dslot = none → Ext (H0 ++ G).length (H0 ++ G) Hx → Sl Hx p2 1 (strEs (To.split line)) → (∀ q, p2 = some q → q.blk < Hx.length) →
      VW Tryz.prog B w4.n false (strip (.seq (.reg [.rd 23 none (.mv (.t 0)), .call (some 24) none (.c (.fn 11 [])) [.t 23], .rd 25 none (.mv (.t 4)), .call (some 26) none (.c (.fn 13 [])) [.t 24, .t 25], .rd 27 none (.mv (.t 26)), .call (some 28) (some (27, true)) (.c (.fn 14 [])) [], .rd 29 none (.pick (.t 27) (.t 28) (.c (.bool false))), .rd 2 none (.mv (.t 29))] 4) .ret)) F Hx
        fun e F' H' => (e = .ret ∨ e = .normal) ∧ F'.get dslot = none ∧ ∃ v, resV F' H'.g w4.rs = some v ∧ v = .bool true := by
    intro F Hx hc hd hx hsl hbl
    refine VW.cov hc hd rfl ?_
    obtain ⟨Gx, rfl⟩ := hx.garbage
    repeat first | refine VOps.sk rfl ?_ | (refine VOps.rd (x := .mv _) rfl (by first | exact rfl | assumption) ?_) | (refine VOps.rd rfl (by first | exact ev_add2 rfl rfl (by omega) | exact ev_sub2 rfl rfl (by omega) | exact ev_cT rfl rfl (by first | exact rfl | (dsimp only [cmpT]; omega)) | exact ev_cF rfl rfl (by first | exact rfl | (dsimp only [cmpF]; omega)) | exact ev_sT rfl rfl (by assumption) | exact ev_sF rfl rfl (by assumption) | exact ev_slst3 rfl rfl rfl (by omega) | exact ev_ixs rfl rfl (by omega) (by assumption) | exact rfl | assumption) ?_) | refine VOps.fin ?_ | refine VW.seq ?_ | refine VW.reg ?_ | refine VW.skip ?_ | refine VW.exit ?_ | refine VW.ret ?_ | refine VW.condT rfl ?_ | refine VW.condF rfl ?_ | refine VW.block ?_ | rw [then_normal] | rw [then_ret] | rw [then_exit] | rw [inB_normal] | rw [inB_ret] | rw [inB_exit, if_pos rfl] | rw [inB_exit, if_neg (by decide)]
    have h11 := splitF (G ++ Gx) line hs
    rw [← List.append_assoc] at h11
    refine VOps.call rfl rfl rfl (h11.mono ?_)
    rintro v3 H3 ⟨x3, g3⟩
    obtain ⟨p3, e3, s3, b3⟩ := g3.sl
    rw [hl] at e3
    subst e3
    have hsl' := x3.sl hsl
    repeat first | refine VOps.sk rfl ?_ | (refine VOps.rd (x := .mv _) rfl (by first | exact rfl | assumption) ?_) | (refine VOps.rd rfl (by first | exact ev_add2 rfl rfl (by omega) | exact ev_sub2 rfl rfl (by omega) | exact ev_cT rfl rfl (by first | exact rfl | (dsimp only [cmpT]; omega)) | exact ev_cF rfl rfl (by first | exact rfl | (dsimp only [cmpF]; omega)) | exact ev_sT rfl rfl (by assumption) | exact ev_sF rfl rfl (by assumption) | exact ev_slst3 rfl rfl rfl (by omega) | exact ev_ixs rfl rfl (by omega) (by assumption) | exact rfl | assumption) ?_) | refine VOps.fin ?_ | refine VW.seq ?_ | refine VW.reg ?_ | refine VW.skip ?_ | refine VW.exit ?_ | refine VW.ret ?_ | refine VW.condT rfl ?_ | refine VW.condF rfl ?_ | refine VW.block ?_ | rw [then_normal] | rw [then_ret] | rw [then_exit] | rw [inB_normal] | rw [inB_ret] | rw [inB_exit, if_pos rfl] | rw [inB_exit, if_neg (by decide)]
    refine VOps.call rfl rfl rfl ((texts s3 hsl' (by omega)).mono ?_)
    rintro r H4 ⟨rfl, rfl⟩
    obtain ⟨G4, rfl⟩ := x3.garbage
    repeat first | refine VOps.sk rfl ?_ | (refine VOps.rd (x := .mv _) rfl (by first | exact rfl | assumption) ?_) | (refine VOps.rd rfl (by first | exact ev_add2 rfl rfl (by omega) | exact ev_sub2 rfl rfl (by omega) | exact ev_cT rfl rfl (by first | exact rfl | (dsimp only [cmpT]; omega)) | exact ev_cF rfl rfl (by first | exact rfl | (dsimp only [cmpF]; omega)) | exact ev_sT rfl rfl (by assumption) | exact ev_sF rfl rfl (by assumption) | exact ev_slst3 rfl rfl rfl (by omega) | exact ev_ixs rfl rfl (by omega) (by assumption) | exact rfl | assumption) ?_) | refine VOps.fin ?_ | refine VW.seq ?_ | refine VW.reg ?_ | refine VW.skip ?_ | refine VW.exit ?_ | refine VW.ret ?_ | refine VW.condT rfl ?_ | refine VW.condF rfl ?_ | refine VW.block ?_ | rw [then_normal] | rw [then_ret] | rw [then_exit] | rw [inB_normal] | rw [inB_ret] | rw [inB_exit, if_pos rfl] | rw [inB_exit, if_neg (by decide)]
    have ha := awakeOk (G ++ (Gx ++ G4))
    rw [← List.append_assoc, ← List.append_assoc] at ha
    refine VOps.call rfl rfl rfl (ha.mono ?_)
    rintro r H5 ⟨rfl, rfl⟩
    repeat first | refine VOps.sk rfl ?_ | (refine VOps.rd (x := .mv _) rfl (by first | exact rfl | assumption) ?_) | (refine VOps.rd rfl (by first | exact ev_add2 rfl rfl (by omega) | exact ev_sub2 rfl rfl (by omega) | exact ev_cT rfl rfl (by first | exact rfl | (dsimp only [cmpT]; omega)) | exact ev_cF rfl rfl (by first | exact rfl | (dsimp only [cmpF]; omega)) | exact ev_sT rfl rfl (by assumption) | exact ev_sF rfl rfl (by assumption) | exact ev_slst3 rfl rfl rfl (by omega) | exact ev_ixs rfl rfl (by omega) (by assumption) | exact rfl | assumption) ?_) | refine VOps.fin ?_ | refine VW.seq ?_ | refine VW.reg ?_ | refine VW.skip ?_ | refine VW.exit ?_ | refine VW.ret ?_ | refine VW.condT rfl ?_ | refine VW.condF rfl ?_ | refine VW.block ?_ | rw [then_normal] | rw [then_ret] | rw [then_exit] | rw [inB_normal] | rw [inB_ret] | rw [inB_exit, if_pos rfl] | rw [inB_exit, if_neg (by decide)]
    exact ⟨.inl rfl, rfl, _, rfl, rfl⟩
  have hmine : Mine (H0 ++ G).length (To.split line).length p1 p2 H3 := by
    rcases g1 with ⟨h0, _⟩ | ⟨_, hz, b, hbL, hbv, hbb⟩
    · left; rw [← hl, h0]; rfl
    · right
      simp only [VV.sl.injEq] at hbv
      obtain ⟨rfl, _, _⟩ := hbv
      refine ⟨b, strEs (To.split line), rfl, hbL, x2.get (List.getElem?_eq_some_iff.1 hbb).1 hbb, hl, fun e he => ?_, fun q hq => ?_⟩
      · obtain ⟨z, _, rfl⟩ := List.mem_map.1 he
        exact ⟨_, rfl⟩
      · have hbl := (List.getElem?_eq_some_iff.1 hbb).1
        rcases g2 with ⟨h0, h1⟩ | ⟨_, _, b', hbL', hbv', _⟩
        · simp only [VV.sl.injEq] at h1
          rw [h1.1] at hq; cases hq
        · simp only [VV.sl.injEq] at hbv'
          rw [hbv'.1] at hq
          cases hq
          show b' ≠ b
          omega
  generalize (To.split line).length = m at hmine hcount key
  have hx13 : Ext (H0 ++ G).length (H0 ++ G) H3 := x1.trans (x2.mono (by simp))
  refine VW.loop (fun n F H' => ∃ k : Nat, n = m - k ∧ k ≤ m ∧ Cov [(0, .str line), (3, .sl p1 m m), (4, .sl p2 m m), (5, .int .i64 k)] F ∧ F.get dslot = none ∧ Ext (H0 ++ G).length (H0 ++ G) H' ∧ Sl H' p2 1 (strEs (To.split line)) ∧ (∀ q, p2 = some q → q.blk < H'.length) ∧ Mine (H0 ++ G).length m p1 p2 H') m ⟨0, rfl, Nat.zero_le _, ⟨rfl, rfl, rfl, rfl, trivial⟩, rfl, hx13, s2, b2, hmine⟩ ?_
  rintro n F H' ⟨k, rfl, hk, hc, hd, hx, hsl, hbl, hm⟩
  by_cases hkm : k < m
  · refine VW.cov hc hd rfl ?_
    rcases hm with h0 | ⟨b, rows, rfl, hbL, hbb, hrl, hrz, hne⟩
    · omega
    have hS : Sl H' (some ⟨b, 0, 0⟩) 1 rows := .inr ⟨b, 0, .loose, 9, rows, rfl, hbb, fun e he => by obtain ⟨z, rfl⟩ := hrz e he; rfl, fun k e he => by simpa using he⟩
    obtain ⟨z, hz⟩ := hrz rows[k] (List.getElem_mem _)
    have hrk : rows[0 + k]? = some [z] := by rw [Nat.zero_add, List.getElem?_eq_getElem (by omega), hz]
    repeat first | refine VOps.sk rfl ?_ | (refine VOps.rd (x := .mv _) rfl (by first | exact rfl | assumption) ?_) | (refine VOps.rd rfl (by first | exact ev_add2 rfl rfl (by omega) | exact ev_sub2 rfl rfl (by omega) | exact ev_cT rfl rfl (by first | exact rfl | (dsimp only [cmpT]; omega)) | exact ev_cF rfl rfl (by first | exact rfl | (dsimp only [cmpF]; omega)) | exact ev_sT rfl rfl (by assumption) | exact ev_sF rfl rfl (by assumption) | exact ev_slst3 rfl rfl rfl (by omega) | exact ev_ixs rfl rfl (by omega) (by assumption) | exact rfl | assumption) ?_) | refine VOps.fin ?_ | refine VW.seq ?_ | refine VW.reg ?_ | refine VW.skip ?_ | refine VW.exit ?_ | refine VW.ret ?_ | refine VW.condT rfl ?_ | refine VW.condF rfl ?_ | refine VW.block ?_ | rw [then_normal] | rw [then_ret] | rw [then_exit] | rw [inB_normal] | rw [inB_ret] | rw [inB_exit, if_pos rfl] | rw [inB_exit, if_neg (by decide)]
    refine VOps.rd rfl (ev_ixa hS rfl rfl (by omega) (by omega) (by omega)) ?_
    refine VOps.ef rfl (ev_storeAt (b := b) (k := 0 + k) (by show some (VV.ptr (some (elp (some ⟨b, 0, 0⟩) ((k : Nat) : Int).toNat))) = _; rw [Int.toNat_natCast]; rfl) hbb (by decide) hrk) ?_
    have hlt := (List.getElem?_eq_some_iff.1 hbb).1
    rw [applyU_set hlt]
    repeat first | refine VOps.sk rfl ?_ | (refine VOps.rd (x := .mv _) rfl (by first | exact rfl | assumption) ?_) | (refine VOps.rd rfl (by first | exact ev_add2 rfl rfl (by omega) | exact ev_sub2 rfl rfl (by omega) | exact ev_cT rfl rfl (by first | exact rfl | (dsimp only [cmpT]; omega)) | exact ev_cF rfl rfl (by first | exact rfl | (dsimp only [cmpF]; omega)) | exact ev_sT rfl rfl (by assumption) | exact ev_sF rfl rfl (by assumption) | exact ev_slst3 rfl rfl rfl (by omega) | exact ev_ixs rfl rfl (by omega) (by assumption) | exact rfl | assumption) ?_) | refine VOps.fin ?_ | refine VW.seq ?_ | refine VW.reg ?_ | refine VW.skip ?_ | refine VW.exit ?_ | refine VW.ret ?_ | refine VW.condT rfl ?_ | refine VW.condF rfl ?_ | refine VW.block ?_ | rw [then_normal] | rw [then_ret] | rw [then_exit] | rw [inB_normal] | rw [inB_ret] | rw [inB_exit, if_pos rfl] | rw [inB_exit, if_neg (by decide)]
    refine ⟨_, by omega, k + 1, rfl, by omega, ⟨rfl, rfl, rfl, by rw [Int.natCast_add]; rfl, trivial⟩, rfl, hx.set hbL _, sl_set hsl hne _, fun q hq => by rw [List.length_set]; exact hbl q hq, .inr ⟨b, rows.set (0 + k) [.str [63]], rfl, hbL, List.getElem?_set_self hlt, by rw [List.length_set]; exact hrl, fun e he => ?_, hne⟩⟩
    rcases List.mem_or_eq_of_mem_set he with he | rfl
    · exact hrz e he
    · exact ⟨_, rfl⟩
  · refine VW.cov hc hd rfl ?_
    refine VW.seq ?_
    refine VW.seq ?_
    refine VW.reg ?_
    repeat first | refine VOps.sk rfl ?_ | (refine VOps.rd (x := .mv _) rfl (by first | exact rfl | assumption) ?_) | (refine VOps.rd rfl (by first | exact ev_add2 rfl rfl (by omega) | exact ev_sub2 rfl rfl (by omega) | exact ev_cT rfl rfl (by first | exact rfl | (dsimp only [cmpT]; omega)) | exact ev_cF rfl rfl (by first | exact rfl | (dsimp only [cmpF]; omega)) | exact ev_sT rfl rfl (by assumption) | exact ev_sF rfl rfl (by assumption) | exact ev_slst3 rfl rfl rfl (by omega) | exact ev_ixs rfl rfl (by omega) (by assumption) | exact rfl | assumption) ?_) | refine VOps.fin ?_ | refine VW.skip ?_ | refine VW.exit ?_ | refine VW.ret ?_ | refine VW.condT rfl ?_ | refine VW.condF rfl ?_ | rw [then_normal] | rw [then_ret] | rw [then_exit] | rw [inB_normal] | rw [inB_ret] | rw [inB_exit, if_pos rfl] | rw [inB_exit, if_neg (by decide)]
    refine key _ _ ?_ ?_ hx hsl hbl
    · exact ⟨rfl, rfl, trivial⟩
    · rfl
end Tok
end Go.Proofs.YtfodpmekcddgpaaGreatDoor
