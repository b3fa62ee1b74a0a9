/- TokensJoins over the canonical heap. -/
import Derived.Test.YtfodpmekcddgpaaGreatDoorToJ
import Derived.Test.YtfodpmekcddgpaaGreatDoorPTe
namespace Go.Proofs.YtfodpmekcddgpaaGreatDoor
set_option linter.unusedSimpArgs false
set_option linter.unusedVariables false
open Go Go.Wm Go.Wm.To Go.Proofs Go.RowKit
set_option maxRecDepth 100000
set_option maxHeartbeats 4000000
namespace Tok
theorem awakeOk (G : Hp) : FnV Tryz.prog 14 [] (H0 ++ G) fun r H' => r = .bool true ∧ H' = H0 ++ G := by
  obtain ⟨H2, _, h⟩ := cut6 H0 (rep_of [] rfl (by kernel_rfl) (by kernel_rfl) (by kernel_rfl) (by kernel_rfl) (tree4 _ _ _ _))
  exact FnV.aside rfl ro0 (by decide) (h.mono fun r H' hr => hr.1) G
def clean (x : List UInt8) : List UInt8 := (x.take 40).filter nQ
def allS : List (List UInt8) := [[], [32], [9, 32], [10], [13, 10]]
theorem allB : ∀ g ∈ allS, (∀ c ∈ g, isB c = true) ∧ g.length ≤ 2 := by decide
def allR : Blk := .row 9 .own (strEs allS)
/-- the line so far: whatever follows -/
def Line (line : List UInt8) (ws : List (List UInt8)) : Prop := ∀ r, To.split (line ++ r) = ws ++ To.split r
theorem Line.nil : Line [] [] := fun r => rfl
theorem Line.step {line g s : List UInt8} {ws : List (List UInt8)} (h : Line line ws) (hg : ∀ c ∈ g, isB c = true) (hs : ∀ c ∈ s, q c = false) : Line (line ++ (g ++ (39 :: s ++ [39]))) (ws ++ [s]) := fun r => by
  have e : (line ++ (g ++ (39 :: s ++ [39]))) ++ r = line ++ (g ++ (39 :: s ++ (39 :: r))) := by simp
  rw [e, h, split_join hg hs]; simp
theorem clean_q (x : List UInt8) : ∀ c ∈ clean x, q c = false := fun c hc => by
  have := (List.mem_filter.1 hc).2
  simpa [nQ] using this
theorem clean_le (x : List UInt8) : (clean x).length ≤ 40 := by
  unfold clean
  have h1 := List.length_filter_le nQ (x.take 40)
  rw [List.length_take] at h1
  omega
theorem take_go {x : List UInt8} {k : Nat} {c : UInt8} (h : x[k]? = some c) : x.take (k + 1) = x.take k ++ [c] := by rw [List.take_add_one, h]; rfl
theorem cut_one {x : List UInt8} {k : Nat} {c : UInt8} (h : x[k]? = some c) : (x.take (k + 1)).drop k = [c] := by
  have hk := (List.getElem?_eq_some_iff.1 h).1
  rw [take_go h, List.drop_append, List.drop_eq_nil_of_le (by rw [List.length_take]; omega)]
  rw [List.length_take, show k - min k x.length = 0 by omega]; rfl
def joinC : VC := .seq (.reg [.rd 70 none (.mv (.t 6)), .rd 71 none (.seq .add (.t 70) (.c (.str [39]))), .rd 72 none (.mv (.t 9)), .rd 73 none (.seq .add (.t 71) (.t 72)), .rd 74 none (.seq .add (.t 73) (.c (.str [39]))), .rd 6 none (.mv (.t 74))] 995)
  (.reg [.rd 75 none (.mv (.t 7)), .rd 76 none (.mv (.t 9)), .ef (some 77) none (.mkrow 9 [.str []] 1 [(0, .t 76)]), .ef (some 78) none (.app 9 1 16 (.t 75) (.t 77)), .rd 7 none (.mv (.t 78))] 0)
def gapC : VC := .seq (.seq (.reg [.rd 52 none (.mv (.t 1)), .rd 53 none (.lens (.t 52)), .rd 54 none (.bin .gtr (.t 53) (.c (.int .i64 0)))] 0)
  (.cond 54 (.reg [.rd 55 none (.mv (.t 6)), .rd 56 none (.mv (.t 5)), .rd 57 none (.mv (.t 1)), .rd 58 none (.mv (.t 8)), .rd 59 none (.mv (.t 1)), .rd 60 none (.lens (.t 59)), .rd 61 none (.bin .rem (.t 58) (.t 60)), .rd 62 none (.ixa 1 (.t 57) (.t 61)), .rd 63 none (.load 1 false (.t 62)), .rd 64 none (.mv (.t 5)), .rd 65 none (.lens (.t 64)), .call (some 66) none (.c (.fn 15 [])) [.t 63, .t 65], .rd 67 none (.ixa 1 (.t 56) (.t 66)), .rd 68 none (.load 1 false (.t 67)), .rd 69 none (.seq .add (.t 55) (.t 68)), .rd 6 none (.mv (.t 69))] 995) .skip)) joinC
theorem ev_rem {E : Fr} {K : Gt} {x y : Od} {i n : Nat} (hx : x.ev E = some (.int .i64 i)) (hy : y.ev E = some (.int .i64 n)) (hn : 0 < n) : (VOp.bin .rem x y).ev E K = some (.int .i64 ((i % n : Nat) : Int)) := by
  refine ev_bin (k := .i64) (a := i) (b := n) hx hy ?_
  have h0 : ¬ ((n : Int) = 0) := by omega
  simp only [iarith, h0, if_false]
  rw [Int.tmod_eq_emod_of_nonneg (by omega)]
  rfl
theorem gapW {B L m n c cg i : Nat} {H : Hp} {p pg : Option PA} {gaps : List Int} {line s : List UInt8} {v : VV} {ws : List (List UInt8)} {Q : VQ} {F : Fr} (hL : L + 1 ≤ H.length) (hgS : Sl H pg 1 (intEs gaps)) (hallS : Sl H (some ⟨L, 0, 0⟩) 1 (strEs allS)) (hgl : gaps.length ≤ 9223372036854775807) (hw : ∀ n ∈ gaps, -9223372036854775808 ≤ n ∧ n ≤ 9223372036854775807) (hi : i < 60) (hlen : line.length ≤ 44 * i) (hsl : s.length ≤ 40) (hgr : Grow (L + 1) 9 1 H v (strEs ws)) (hwl : ws.length = i)
    (hc : Cov [(0, .sl p n c), (1, .sl pg gaps.length cg), (5, .sl (some ⟨L, 0, 0⟩) 5 5), (6, .str line), (7, v), (8, .int .i64 i), (9, .str s)] F) (hd : F.get dslot = none)
    (hQ : ∀ F' H' v' g, (∀ b ∈ g, isB b = true) → g.length ≤ 2 → Cov [(0, .sl p n c), (1, .sl pg gaps.length cg), (5, .sl (some ⟨L, 0, 0⟩) 5 5), (6, .str (line ++ (g ++ (39 :: s ++ [39])))), (7, v'), (8, .int .i64 i)] F' → F'.get dslot = none → Ext (L + 1) H H' → Grow (L + 1) 9 1 H' v' (strEs (ws ++ [s])) → Q .normal F' H') :
    VW Tryz.prog B m false (strip gapC) F H Q := by
  have fin : ∀ F2 g, (∀ b ∈ g, isB b = true) → g.length ≤ 2 → Cov [(0, .sl p n c), (1, .sl pg gaps.length cg), (5, .sl (some ⟨L, 0, 0⟩) 5 5), (6, .str (line ++ g)), (7, v), (8, .int .i64 i), (9, .str s)] F2 → F2.get dslot = none → VW Tryz.prog B m false (strip joinC) F2 H Q := by
    intro F2 g hg hg2 hc hd
    refine VW.cov hc hd rfl ?_
    obtain ⟨v', us, e1, e2, e3⟩ := hgr.one (by omega) s (by omega)
    have hext3 : Ext (L + 1) H (applyU (H ++ [Blk.row 9 .own [[.str s]]]) us) := ((Ext.refl hL).push _).trans e3
    have hlg : (line ++ g).length ≤ 44 * i + 2 := by rw [List.length_append]; omega
    have e39 : ([39] : List UInt8).length = 1 := rfl
    have hl1 : ((line ++ g) ++ [39]).length ≤ 44 * i + 3 := by rw [List.length_append]; omega
    have hl2 : (((line ++ g) ++ [39]) ++ s).length ≤ 44 * i + 43 := by rw [List.length_append]; omega
    have hjo : (((line ++ g) ++ [39]) ++ s) ++ [39] = line ++ (g ++ (39 :: s ++ [39])) := by simp
    repeat first | (refine VOps.rd (x := .mv _) rfl (by first | exact rfl | assumption) ?_) | refine VW.seq ?_ | refine VW.reg ?_
    refine VOps.rd rfl (ev_cat rfl rfl (by omega)) ?_
    repeat (refine VOps.rd (x := .mv _) rfl (by first | exact rfl | assumption) ?_)
    refine VOps.rd rfl (ev_cat rfl rfl (by omega)) ?_
    refine VOps.rd rfl (ev_cat rfl rfl (by omega)) ?_
    rw [hjo]
    repeat first | (refine VOps.rd (x := .mv _) rfl (by first | exact rfl | assumption) ?_) | refine VOps.fin ?_ | refine VW.reg ?_
    refine VOps.ef rfl (ev_mkrow1 rfl) ?_
    rw [applyU_push]
    refine VOps.ef rfl (e1 _ _ _ rfl rfl) ?_
    generalize applyU (H ++ [Blk.row 9 .own [[.str s]]]) us = H3 at e2 e3 hext3
    repeat first | (refine VOps.rd (x := .mv _) rfl (by first | exact rfl | assumption) ?_) | refine VOps.fin ?_
    exact hQ _ _ _ g hg hg2 ⟨rfl, rfl, rfl, rfl, rfl, rfl, trivial⟩ rfl hext3 e2
  refine VW.cov hc hd rfl ?_
  refine VW.seq ?_
  refine VW.seq ?_
  refine VW.reg ?_
  by_cases h0 : 0 < gaps.length
  · have hmod : i % gaps.length < gaps.length := Nat.mod_lt _ h0
    obtain ⟨d, hdd⟩ : ∃ d, gaps[i % gaps.length]? = some d := ⟨_, List.getElem?_eq_getElem hmod⟩
    have hge : (intEs gaps)[((i % gaps.length : Nat) : Int).toNat]? = some [.int .i64 d] := by rw [Int.toNat_natCast, intEs_get, hdd]; rfl
    have hgle : gaps.length ≤ (intEs gaps).length := by rw [intEs_len]; exact Nat.le_refl _
    have hd64 := hw d (List.mem_of_getElem? hdd)
    have hpk := pickN_lt (c := d) (n := 5) (by omega)
    obtain ⟨g, hg⟩ : ∃ g, allS[pickN d 5]? = some g := ⟨_, List.getElem?_eq_getElem hpk⟩
    have hge2 : (strEs allS)[((pickN d 5 : Nat) : Int).toNat]? = some [.str g] := by rw [Int.toNat_natCast, strEs_get, hg]; rfl
    obtain ⟨hgb, hgl2⟩ := allB g (List.mem_of_getElem? hg)
    repeat first | (refine VOps.rd (x := .mv _) rfl (by first | exact rfl | assumption) ?_) | (refine VOps.rd rfl (by first | exact ev_cT rfl rfl (by first | exact rfl | (dsimp only [cmpT]; omega)) | exact rfl) ?_) | refine VOps.fin ?_ | refine VW.condT rfl ?_
    refine VW.reg ?_
    repeat first | (refine VOps.rd (x := .mv _) rfl (by first | exact rfl | assumption) ?_) | refine VOps.rd rfl rfl ?_
    refine VOps.rd rfl (ev_rem rfl rfl h0) ?_
    refine VOps.rd rfl (ev_ixa hgS rfl rfl (by omega) (by omega) hgle) ?_
    refine VOps.rd rfl (ev_ld hgS rfl hge) ?_
    repeat first | (refine VOps.rd (x := .mv _) rfl (by first | exact rfl | assumption) ?_) | refine VOps.rd rfl rfl ?_
    refine VOps.call rfl rfl rfl ((pick (n := 5) hd64.1 hd64.2 (by omega) (by omega)).mono ?_)
    rintro r H5 ⟨rfl, rfl⟩
    refine VOps.rd rfl (ev_ixa hallS rfl rfl (by omega) (by omega) (Nat.le_refl _)) ?_
    refine VOps.rd rfl (ev_ld hallS rfl hge2) ?_
    refine VOps.rd rfl (ev_cat rfl rfl (by omega)) ?_
    repeat first | (refine VOps.rd (x := .mv _) rfl (by first | exact rfl | assumption) ?_) | refine VOps.fin ?_ | rw [then_normal]
    exact fin _ g hgb hgl2 ⟨rfl, rfl, rfl, rfl, rfl, rfl, rfl, trivial⟩ rfl
  · repeat first | (refine VOps.rd (x := .mv _) rfl (by first | exact rfl | assumption) ?_) | (refine VOps.rd rfl (by first | exact ev_cF rfl rfl (by first | exact rfl | (dsimp only [cmpF]; omega)) | exact rfl) ?_) | refine VOps.fin ?_ | refine VW.skip ?_ | refine VW.condF rfl ?_ | rw [then_normal]
    exact fin _ [] (by simp) (by simp) ⟨rfl, rfl, rfl, by rw [List.append_nil]; rfl, rfl, rfl, rfl, trivial⟩ rfl
/-- the ends of the outer rounds -/
theorem law5 (G : Hp) {p pg : Option PA} {c cg : Nat} {l : List (List UInt8)} {gaps : List Int} (hp : Sl (H0 ++ G) p 1 (strEs l)) (hg : Sl (H0 ++ G) pg 1 (intEs gaps)) (hl : l.length ≤ 9223372036854775807) (hgl : gaps.length ≤ 9223372036854775807)
    (hs : ∀ s ∈ l, s.length ≤ 9223372036854775807) (hw : ∀ n ∈ gaps, -9223372036854775808 ≤ n ∧ n ≤ 9223372036854775807) :
    FnV Tryz.prog 5 [.sl p l.length c, .sl pg gaps.length cg] (H0 ++ G) fun r _ => r = .bool true := by
  refine FnV.enterRow ok5 (Nat.le_of_ble_eq_true rfl) fun B => ?_
  repeat first | (refine VOps.rd (x := .mv _) rfl (by first | exact rfl | assumption) ?_) | refine VOps.fin ?_ | refine VW.seq ?_ | refine VW.reg ?_
  have hall : ∀ (E : Fr) (K : Gt) (n : Nat), (VEf.mkrow 9 [VV.str []] 5 [(0, .c (.str [])), (1, .c (.str [32])), (2, .c (.str [9, 32])), (3, .c (.str [10])), (4, .c (.str [13, 10]))]).ev E K n = some (.sl (some ⟨n, 0, 0⟩) 5 5, [(n, allR)]) := fun E K n => rfl
  refine VOps.ef rfl (hall _ _ _) ?_
  rw [applyU_push]
  repeat first | (refine VOps.rd (x := .mv _) rfl (by first | exact rfl | assumption) ?_) | refine VOps.fin ?_ | refine VW.seq ?_ | refine VW.reg ?_ | refine VW.block ?_
  have hL1 : ((H0 ++ G) ++ [allR]).length = (H0 ++ G).length + 1 := List.length_append
  refine VW.loop (fun n F H' => ∃ (i : Nat) (line : List UInt8) (ws : List (List UInt8)) (v : VV), n = 60 - i ∧ i ≤ 60 ∧ i ≤ l.length ∧ Line line ws ∧ ws.length = i ∧ line.length ≤ 44 * i ∧ Cov [(0, .sl p l.length c), (1, .sl pg gaps.length cg), (5, .sl (some ⟨(H0 ++ G).length, 0, 0⟩) 5 5), (6, .str line), (7, v), (8, .int .i64 i)] F ∧ F.get dslot = none ∧ Ext ((H0 ++ G).length + 1) ((H0 ++ G) ++ [allR]) H' ∧ Grow ((H0 ++ G).length + 1) 9 1 H' v (strEs ws)) 60
    ⟨0, [], [], .sl none 0 0, rfl, by omega, by omega, Line.nil, rfl, by simp, ⟨rfl, rfl, rfl, rfl, rfl, rfl, trivial⟩, rfl, Ext.refl (by omega), Grow.nil _ _ _ _⟩ ?_
  rintro n F H' ⟨i, line, ws, v, rfl, hi, hil, hln, hwl, hlen, hc, hd, hext, hgr⟩
  refine VW.cov hc hd rfl ?_
  have hext0 : Ext (H0 ++ G).length (H0 ++ G) H' := (Ext.push (Ext.refl (Nat.le_refl _)) allR).trans (hext.mono (by omega))
  obtain ⟨G1, rfl⟩ := hext0.garbage
  have hpS := hp.mono G1
  have hgS := hg.mono G1
  have hLr : (H0 ++ G).length + 1 ≤ ((H0 ++ G) ++ G1).length := hext.1
  have hallb : ((H0 ++ G) ++ G1)[(H0 ++ G).length]? = some allR := hext.get (by omega) (last_get _ _)
  have hallS : Sl ((H0 ++ G) ++ G1) (some ⟨(H0 ++ G).length, 0, 0⟩) 1 (strEs allS) := .inr ⟨_, 0, .own, 9, strEs allS, rfl, hallb, fun e he => by obtain ⟨z, _, rfl⟩ := List.mem_map.1 he; rfl, fun k e he => by simpa using he⟩
  -- behind the loop
  have tail : ∀ F2 : Fr, Cov [(6, .str line), (7, v)] F2 → F2.get dslot = none → VW Tryz.prog B w5.n false (strip (.seq (.reg [.rd 79 none (.mv (.t 6)), .call (some 80) none (.c (.fn 11 [])) [.t 79], .rd 81 none (.mv (.t 7)), .call (some 82) none (.c (.fn 13 [])) [.t 80, .t 81], .rd 83 none (.mv (.t 82)), .call (some 84) (some (83, true)) (.c (.fn 14 [])) [], .rd 85 none (.pick (.t 83) (.t 84) (.c (.bool false))), .rd 4 none (.mv (.t 85))] 16) .ret)) F2 ((H0 ++ G) ++ G1)
        fun e F' H' => (e = .ret ∨ e = .normal) ∧ F'.get dslot = none ∧ ∃ v, resV F' H'.g w5.rs = some v ∧ v = .bool true := by
    intro F2 hc hd
    refine VW.cov hc hd rfl ?_
    have hsp : To.split line = ws := by have := hln []; rw [List.append_nil, split_nil, List.append_nil] at this; exact this
    obtain ⟨p2, e2, s2, b2⟩ := hgr.sl
    rw [strEs_len] at e2
    subst e2
    have h11 := splitF (G ++ G1) line (by omega)
    rw [← List.append_assoc] at h11
    repeat first | (refine VOps.rd (x := .mv _) rfl (by first | exact rfl | assumption) ?_) | refine VW.seq ?_ | refine VW.reg ?_
    refine VOps.call rfl rfl rfl (h11.mono ?_)
    rintro v3 H3 ⟨x3, g3⟩
    obtain ⟨p3, e3, s3, b3⟩ := g3.sl
    rw [strEs_len] at e3
    subst e3
    have hsl' := x3.sl s2
    rw [hsp] at s3 ⊢
    repeat (refine VOps.rd (x := .mv _) rfl (by first | exact rfl | assumption) ?_)
    refine VOps.call rfl rfl rfl ((texts s3 hsl' (by omega)).mono ?_)
    rintro r H4 ⟨rfl, rfl⟩
    obtain ⟨G4, rfl⟩ := x3.garbage
    repeat (refine VOps.rd (x := .mv _) rfl (by first | exact rfl | assumption) ?_)
    have ha := awakeOk (G ++ (G1 ++ G4))
    rw [← List.append_assoc, ← List.append_assoc] at ha
    refine VOps.call rfl rfl rfl (ha.mono ?_)
    rintro r H5 ⟨rfl, rfl⟩
    repeat first | (refine VOps.rd (x := .mv _) rfl (by first | exact rfl | assumption) ?_) | refine VOps.rd rfl rfl ?_ | refine VOps.fin ?_ | refine VW.ret ?_
    exact ⟨.inl rfl, rfl, _, rfl, rfl⟩
  by_cases h1 : i < l.length
  case neg =>
    refine VW.seq ?_
    refine VW.seq ?_
    refine VW.reg ?_
    repeat first | refine VOps.sk rfl ?_ | (refine VOps.rd (x := .mv _) rfl (by first | exact rfl | assumption) ?_) | (refine VOps.rd rfl (by first | exact ev_cF rfl rfl (by first | exact rfl | (dsimp only [cmpF]; omega)) | exact rfl) ?_) | refine VOps.fin ?_ | refine VW.exit ?_ | refine VW.condF rfl ?_ | rw [then_normal] | rw [then_exit] | rw [inB_exit, if_pos rfl]
    refine tail _ ?_ ?_
    · exact ⟨rfl, rfl, trivial⟩
    · rfl
  by_cases h2 : i < 60
  case neg =>
    refine VW.seq ?_
    refine VW.seq ?_
    refine VW.reg ?_
    repeat first | (refine VOps.rd (x := .mv _) rfl (by first | exact rfl | assumption) ?_) | (refine VOps.rd rfl (by first | exact ev_cT rfl rfl (by first | exact rfl | (dsimp only [cmpT]; omega)) | exact ev_cF rfl rfl (by first | exact rfl | (dsimp only [cmpF]; omega)) | exact rfl) ?_) | refine VOps.fin ?_ | refine VW.exit ?_ | refine VW.condF rfl ?_ | rw [then_normal] | rw [then_exit] | rw [inB_exit, if_pos rfl]
    refine tail _ ?_ ?_
    · exact ⟨rfl, rfl, trivial⟩
    · rfl
  clear tail
  obtain ⟨x, hx⟩ : ∃ x, l[i]? = some x := ⟨_, List.getElem?_eq_getElem h1⟩
  have hxl : x.length ≤ 9223372036854775807 := hs x (List.mem_of_getElem? hx)
  have hxe : (strEs l)[((i : Nat) : Int).toNat]? = some [.str x] := by rw [Int.toNat_natCast, strEs_get, hx]; rfl
  have hle : l.length ≤ (strEs l).length := by rw [strEs_len]; exact Nat.le_refl _
  repeat first | (refine VOps.rd (x := .mv _) rfl (by first | exact rfl | assumption) ?_) | (refine VOps.rd rfl (by first | exact ev_cT rfl rfl (by first | exact rfl | (dsimp only [cmpT]; omega)) | exact rfl) ?_) | refine VOps.fin ?_ | refine VW.seq ?_ | refine VW.reg ?_ | refine VW.skip ?_ | refine VW.condT rfl ?_ | refine VW.block ?_
  have hi64 : ((i : Nat) : Int) ≤ 60 := by omega
  refine VW.loop (fun n F H' => ∃ k : Nat, n = x.length - k ∧ k ≤ x.length ∧ k ≤ 40 ∧ Cov [(0, .sl p l.length c), (1, .sl pg gaps.length cg), (5, .sl (some ⟨(H0 ++ G).length, 0, 0⟩) 5 5), (6, .str line), (7, v), (8, .int .i64 i), (9, .str ((x.take k).filter nQ)), (10, .int .i64 k)] F ∧ F.get dslot = none ∧ H' = (H0 ++ G) ++ G1) x.length ⟨0, rfl, Nat.zero_le _, by omega, ⟨rfl, rfl, rfl, rfl, rfl, rfl, rfl, rfl, trivial⟩, rfl, rfl⟩ ?_
  rintro n F H' ⟨k, rfl, hk, hk40, hc2, hd2, rfl⟩
  refine VW.cov hc2 hd2 rfl ?_
  have hkl2 : ((x.take k).filter nQ).length ≤ k := by
    have h1 := List.length_filter_le nQ (x.take k)
    rw [List.length_take] at h1
    omega
  have goon : ∀ F2 : Fr, Cov [(0, .sl p l.length c), (1, .sl pg gaps.length cg), (5, .sl (some ⟨(H0 ++ G).length, 0, 0⟩) 5 5), (6, .str line), (7, v), (8, .int .i64 i), (9, .str (clean x))] F2 → F2.get dslot = none → ∀ Q : VQ, (∀ F' H' v' g, (∀ b ∈ g, isB b = true) → g.length ≤ 2 → Cov [(0, .sl p l.length c), (1, .sl pg gaps.length cg), (5, .sl (some ⟨(H0 ++ G).length, 0, 0⟩) 5 5), (6, .str (line ++ (g ++ (39 :: clean x ++ [39])))), (7, v'), (8, .int .i64 i)] F' → F'.get dslot = none → Ext ((H0 ++ G).length + 1) ((H0 ++ G) ++ G1) H' → Grow ((H0 ++ G).length + 1) 9 1 H' v' (strEs (ws ++ [clean x])) → Q .normal F' H') → VW Tryz.prog B w5.n false (strip gapC) F2 ((H0 ++ G) ++ G1) Q :=
    fun F2 hc hd Q hQ => gapW hLr hgS hallS hgl hw h2 hlen (clean_le x) hgr hwl hc hd hQ
  have done : ∀ (F' : Fr) (H' : Hp) (v' : VV) (g : List UInt8), (∀ b ∈ g, isB b = true) → g.length ≤ 2 → Cov [(0, .sl p l.length c), (1, .sl pg gaps.length cg), (5, .sl (some ⟨(H0 ++ G).length, 0, 0⟩) 5 5), (6, .str (line ++ (g ++ (39 :: clean x ++ [39])))), (7, v'), (8, .int .i64 ((i : Int) + 1))] F' → F'.get dslot = none → Ext ((H0 ++ G).length + 1) ((H0 ++ G) ++ G1) H' → Grow ((H0 ++ G).length + 1) 9 1 H' v' (strEs (ws ++ [clean x])) → ∃ m, m < 60 - i ∧ ∃ (i' : Nat) (line : List UInt8) (ws : List (List UInt8)) (v : VV), m = 60 - i' ∧ i' ≤ 60 ∧ i' ≤ l.length ∧ Line line ws ∧ ws.length = i' ∧ line.length ≤ 44 * i' ∧ Cov [(0, .sl p l.length c), (1, .sl pg gaps.length cg), (5, .sl (some ⟨(H0 ++ G).length, 0, 0⟩) 5 5), (6, .str line), (7, v), (8, .int .i64 i')] F' ∧ F'.get dslot = none ∧ Ext ((H0 ++ G).length + 1) ((H0 ++ G) ++ [allR]) H' ∧ Grow ((H0 ++ G).length + 1) 9 1 H' v (strEs ws) := fun F' H' v' g hg hg2 hc hd he hgr =>
    ⟨_, by omega, i + 1, _, _, v', rfl, by omega, by omega, hln.step hg (clean_q x), by rw [List.length_append, List.length_singleton, hwl], by have := clean_le x; simp only [List.length_append, List.length_cons, List.length_nil]; omega, by rw [Int.natCast_add]; exact hc, hd, hext.trans he, hgr⟩
  repeat first | (refine VOps.rd (x := .mv _) rfl (by first | exact rfl | assumption) ?_) | refine VW.seq ?_ | refine VW.reg ?_
  refine VOps.rd rfl (ev_ixa hpS rfl rfl (by omega) (by omega) hle) ?_
  refine VOps.rd rfl (ev_ld hpS rfl hxe) ?_
  by_cases hkl : k < x.length
  · by_cases hk4 : k < 40
    · obtain ⟨c2, hg2⟩ : ∃ c, x[k]? = some c := ⟨_, List.getElem?_eq_getElem hkl⟩
      have hg2' : x[((k : Nat) : Int).toNat]? = some c2 := by rw [Int.toNat_natCast]; exact hg2
      have hfil := congrArg (List.filter nQ) (take_go hg2)
      rw [List.filter_append] at hfil
      have hcut : (x.take (((k : Nat) : Int) + 1).toNat).drop ((k : Nat) : Int).toNat = [c2] := by rw [Int.toNat_natCast, show ((k : Int) + 1).toNat = k + 1 by omega]; exact cut_one hg2
      repeat first | (refine VOps.rd (x := .mv _) rfl (by first | exact rfl | assumption) ?_) | (refine VOps.rd rfl (by first | exact ev_cT rfl rfl (by first | exact rfl | (dsimp only [cmpT]; omega)) | exact rfl) ?_) | refine VOps.fin ?_ | refine VW.seq ?_ | refine VW.reg ?_ | refine VW.skip ?_ | refine VW.condT rfl ?_ | refine VW.block ?_
      refine VOps.rd rfl (ev_ixa hpS rfl rfl (by omega) (by omega) hle) ?_
      refine VOps.rd rfl (ev_ld hpS rfl hxe) ?_
      by_cases hq2 : c2.toNat = 39
      · have hn : List.filter nQ [c2] = [] := by
          cases hb : nQ c2 with
          | false => rw [List.filter_cons_of_neg (by rw [hb]; decide)]; rfl
          | true => exact absurd hq2 ((nQ_iff c2).1 hb)
        rw [hn, List.append_nil] at hfil
        repeat first | (refine VOps.rd (x := .mv _) rfl (by first | exact rfl | assumption) ?_) | (refine VOps.rd rfl (by first | exact ev_add2 rfl rfl (by omega) | exact ev_cF rfl rfl (by first | exact rfl | (dsimp only [cmpF]; omega)) | exact ev_ixs rfl rfl (by omega) (by assumption)) ?_) | refine VOps.fin ?_ | refine VW.reg ?_ | refine VW.skip ?_ | refine VW.condF rfl ?_ | rw [then_normal]
        exact ⟨_, by omega, k + 1, rfl, by omega, by omega, ⟨rfl, rfl, rfl, rfl, rfl, rfl, by rw [hfil]; rfl, by rw [Int.natCast_add]; rfl, trivial⟩, rfl, rfl⟩
      · rw [List.filter_cons_of_pos ((nQ_iff c2).2 hq2)] at hfil
        repeat first | (refine VOps.rd (x := .mv _) rfl (by first | exact rfl | assumption) ?_) | (refine VOps.rd rfl (by first | exact ev_cT rfl rfl (by first | exact rfl | (dsimp only [cmpT]; omega)) | exact ev_ixs rfl rfl (by omega) (by assumption)) ?_) | refine VOps.fin ?_ | refine VW.reg ?_ | refine VW.condT rfl ?_
        refine VOps.rd rfl (ev_ixa hpS rfl rfl (by omega) (by omega) hle) ?_
        refine VOps.rd rfl (ev_ld hpS rfl hxe) ?_
        repeat first | (refine VOps.rd (x := .mv _) rfl (by first | exact rfl | assumption) ?_) | (refine VOps.rd rfl (by first | exact ev_add2 rfl rfl (by omega) | exact ev_slst3 rfl rfl rfl (by omega)) ?_)
        rw [hcut]
        refine VOps.rd rfl (ev_cat rfl rfl (by simp only [List.length_cons, List.length_nil]; omega)) ?_
        repeat first | (refine VOps.rd (x := .mv _) rfl (by first | exact rfl | assumption) ?_) | refine VOps.rd rfl (ev_add2 rfl rfl (by omega)) ?_ | refine VOps.fin ?_ | refine VW.reg ?_ | rw [then_normal]
        exact ⟨_, by omega, k + 1, rfl, by omega, by omega, ⟨rfl, rfl, rfl, rfl, rfl, rfl, by rw [hfil]; rfl, by rw [Int.natCast_add]; rfl, trivial⟩, rfl, rfl⟩
    · obtain rfl : k = 40 := by omega
      repeat first | (refine VOps.rd (x := .mv _) rfl (by first | exact rfl | assumption) ?_) | (refine VOps.rd rfl (by first | exact ev_cT rfl rfl (by first | exact rfl | (dsimp only [cmpT]; omega)) | exact ev_cF rfl rfl (by first | exact rfl | (dsimp only [cmpF]; omega)) | exact rfl) ?_) | refine VOps.fin ?_ | refine VW.exit ?_ | refine VW.condF rfl ?_ | rw [then_normal] | rw [then_exit] | rw [inB_exit, if_pos rfl]
      refine goon _ ⟨rfl, rfl, rfl, rfl, rfl, rfl, rfl, trivial⟩ rfl _ ?_
      intro F' H' v' g hg hg2 hc hd he hgr2
      (try rw [inB_normal])
      rw [then_normal]
      refine VW.cov hc hd rfl ?_
      repeat first | (refine VOps.rd (x := .mv _) rfl (by first | exact rfl | assumption) ?_) | refine VOps.rd rfl (ev_add2 rfl rfl (by omega)) ?_ | refine VOps.fin ?_ | refine VW.reg ?_ | rw [then_normal]
      exact done _ _ v' g hg hg2 ⟨rfl, rfl, rfl, rfl, rfl, rfl, trivial⟩ rfl he hgr2
  · have hcl : (x.take k).filter nQ = clean x := by
      unfold clean
      rw [List.take_of_length_le (by omega), List.take_of_length_le (by omega)]
    rw [hcl]
    repeat first | refine VOps.sk rfl ?_ | (refine VOps.rd (x := .mv _) rfl (by first | exact rfl | assumption) ?_) | (refine VOps.rd rfl (by first | exact ev_cF rfl rfl (by first | exact rfl | (dsimp only [cmpF]; omega)) | exact rfl) ?_) | refine VOps.fin ?_ | refine VW.exit ?_ | refine VW.condF rfl ?_ | rw [then_normal] | rw [then_exit] | rw [inB_exit, if_pos rfl]
    refine goon _ ⟨rfl, rfl, rfl, rfl, rfl, rfl, rfl, trivial⟩ rfl _ ?_
    intro F' H' v' g hg hg2 hc hd he hgr2
    (try rw [inB_normal])
    rw [then_normal]
    refine VW.cov hc hd rfl ?_
    repeat first | (refine VOps.rd (x := .mv _) rfl (by first | exact rfl | assumption) ?_) | refine VOps.rd rfl (ev_add2 rfl rfl (by omega)) ?_ | refine VOps.fin ?_ | refine VW.reg ?_ | rw [then_normal]
    exact done _ _ v' g hg hg2 ⟨rfl, rfl, rfl, rfl, rfl, rfl, trivial⟩ rfl he hgr2
end Tok
end Go.Proofs.YtfodpmekcddgpaaGreatDoor
