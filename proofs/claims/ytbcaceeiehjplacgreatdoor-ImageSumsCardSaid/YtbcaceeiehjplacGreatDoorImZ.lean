/- ImageSums: whatever the bytes: the sum is the document's, and with one byte turned it is another just if the byte is; under the condition that the tables are as the program's text lays them. -/
import Derived.Test.YtbcaceeiehjplacGreatDoorTie
import Derived.Test.YtbcaceeiehjplacGreatDoorCards
import Derived.Test.YtbcaceeiehjplacGreatDoorImW
import Derived.Test.YtbcaceeiehjplacGreatDoorWmZd
namespace Go.Proofs.YtbcaceeiehjplacGreatDoor
set_option linter.unusedSimpArgs false
set_option linter.unusedVariables false
open Go Go.Wm Go.Proofs Go.ChangeShapes Go.WideShapes Go.ChangeAt Go.RowKit
set_option maxRecDepth 100000
set_option maxHeartbeats 400000000
namespace ImageSums
def laidL : List (String × DataW Unit) := [("math/bits.deBruijn64tab", Rows.laid_math_bits_deBruijn64tab), ("presage/scan.orders", Rows.laid_presage_scan_orders), ("presage/image.head", Rows.laid_presage_image_head)]
theorem laidL_eq : Rows.imageSumsRow.laid = laidL := rfl
theorem h0_of_laid {W : World} (h : laidMetH Tryz.prog laidL W) : ∃ σ, HRel Tryz.prog σ W.heap.size H0 W ∧ 0 < W.heap.size := by
  rw [MakeChecks.laidMetH_plain _ _ _ (by kernel_rfl)] at h
  obtain ⟨ps, ⟨g0, t0, cs0, f0, p0, q0, hg0, ht0, hv0, hd0, ⟨g1, t1, cs1, f1, p1, q1, hg1, ht1, hv1, hd1, ⟨g2, t2, cs2, f2, p2, q2, hg2, ht2, hv2, hd2, _⟩, _⟩, _⟩, _, _⟩ := h
  obtain rfl := Option.some.inj (gTab.symm.trans hg0)
  obtain rfl := Option.some.inj (gOrd.symm.trans hg1)
  obtain rfl := Option.some.inj (gHead.symm.trans hg2)
  obtain rfl := Option.some.inj (tTab.symm.trans ht0)
  obtain rfl := Option.some.inj (tOrd.symm.trans ht1)
  obtain rfl := Option.some.inj (tHead.symm.trans ht2)
  rw [tab_eq] at hd0
  rw [ord_eq] at hd1
  rw [head_eq] at hd2
  have c0 := Lib.cells_of_tab uTab uU8 cU8 cTab hd0
  have c2 := Lib.cells_of_tab uHead uU8 cU8 cHead hd2
  obtain ⟨a, c1, ha, hb, hs⟩ := strs_of_trod uOrd uStr cStr hd1 (by decide)
  exact h0_core (fun i => by rw [World.var?_cell hg2 hv2 i, ← Array.getElem?_toList, c2, List.getElem?_map]) (fun i => by rw [World.var?_cell hg0 hv0 i, ← Array.getElem?_toList, c0, List.getElem?_map]) (by rw [World.var?_cell hg1 hv1 0, ← Array.getElem?_toList, c1]; rfl) ha hb hs
theorem door_met (os : Os) (args : Array Value) : laidMetH Tryz.prog laidL ((World.doorLaid Tryz.prog 400 os).forCall (fun _ _ => 0) ⟨#[], args, []⟩).memory :=
  laidMetH_of_parts3 (fuel := 8) (laidMet_of_run' 8 (by kernel_rfl) (by kernel_rfl)) (by kernel_rfl) (by kernel_rfl)
theorem uInt : Tryz.prog.underlying 3 = some (.int .i64) := by kernel_rfl
theorem lawR {D : Type} (G : Hp) (vvs : List VV) (ds : List (DataW D)) (h : ArgsRd Tryz.prog (H0 ++ G) [9, 3, 3] vvs ds) : FnV Tryz.prog 3 vvs (H0 ++ G) fun r _ => r = .bool true := by
  cases h with
  | cons h1 h2 =>
    cases h2 with
    | cons h2 h3 =>
      cases h3 with
      | cons h3 h4 =>
        cases h4
        obtain ⟨vs, h5, h6⟩ := h1
        obtain ⟨s, rfl, hs, _⟩ := h5.str_inv uStr
        have e : isStruct Tryz.prog 9 = false := by unfold isStruct; rw [uStr]
        rw [e] at h6
        subst h6
        obtain ⟨a, rfl, ha⟩ := h2.int_inv uInt
        obtain ⟨t, rfl, ht⟩ := h3.int_inv uInt
        obtain ⟨ha1, ha2⟩ := wf_i64 ha
        obtain ⟨ht1, ht2⟩ := wf_i64 ht
        exact Ims.law G (by unfold maxLen at hs; omega) ha1 ha2 ht1 ht2
theorem lifted (os : Os) (started : os.Started) (H : Type) (enc : TypeId × Value → H) :
    ReturnsInHanded {} Tryz.checked os 3 .any (fun w args => (Rows.imageSumsSpec.pre enc Tryz.prog Tryz.f3 [] false w args ∧ laidMetH Tryz.prog laidL w) ∧ sizedMet enc Tryz.prog Tryz.f3 (OpenSpec.ofChange Rows.imageSumsSpec) false w args)
      (Rows.imageSumsSpec.post enc Tryz.prog Tryz.f3 false true false false) := by
  refine returnsInHanded_of_change_and (C := Tryz.checked) (X := fun w _ => laidMetH Tryz.prog laidL w) (fun _ _ _ hh h => h.of_heap hh) own started (by kernel_rfl) Tryz.func3
    (ChangeSpec.witness_shaped (enc := enc) (C := Tryz.checked) (os := os) (X := fun w _ => laidMetH Tryz.prog laidL w) false (World.doorLaid Tryz.prog 400 os) #[.string ⟨#[]⟩, .int .i64 0, .int .i64 0] 8 rfl (World.shaped_of_RefB (by kernel_rfl) (by kernel_rfl)) (by kernel_rfl) (by kernel_rfl) (by kernel_rfl) (door_met os _)) ?_
  intro W base args ds gs before hval hW _ _ hL _
  obtain ⟨σ, h0, hpos⟩ := h0_of_laid hL
  exact law_contract (s := Rows.imageSumsSpec) (tb := 4) (d0 := 5) hpos laidOut (by decide +kernel) (by decide +kernel) rfl (by kernel_rfl) uBool (fun ds hl => by
    have hl' : ds.length = 3 := hl
    match ds, hl' with
    | [_, _, _], _ => rfl) h0 (fun G vvs ds h => by
      have h' : ArgsRd Tryz.prog (H0 ++ G) Tryz.f3.params.toList vvs ds := h
      rw [Tryz.params3] at h'
      exact lawR G vvs ds h') args ds gs before base hval hW
theorem facts : joinedFacts Tryz.pinned.checked.prog 3 Tryz.f3 Rows.imageSumsSpec Rows.imageSumsRow = true := by
  unfold joinedFacts
  repeat' with_reducible refine and2 ?_ ?_
  all_goals as_aux_lemma => kernel_rfl
theorem named : Tryz.pinned.checked.prog.funcNamed Rows.imageSumsRow.func = some 3 := by kernel_rfl
theorem over : Rows.ImageSumsSaid :=
  OpenClaim.holds_of_wide 3 Tryz.f3 rfl rfl rfl rfl rfl rfl rfl ⟨rfl, rfl, rfl, rfl, rfl⟩ rfl rfl rfl rfl rfl named Tryz.func3 facts
    (of_decide_eq_true (by kernel_rfl)) (by unfold Func.isWrapper; first | (rw [if_pos (by decide +kernel)]; kernel_rfl) | (rw [if_neg (by decide +kernel)]; exact ⟨rfl, rfl⟩))
    (fun os started H enc _ => lifted os started H enc)
theorem wfText : Rows.imageSumsRow.wfByText (OpenSpec.ofChange Rows.imageSumsSpec) = true := by kernel_rfl
theorem mainIs : Tryz.pinned.checked.prog.mainIs = some (true, ("06f46e8dbb361f4c8ebf1ebefdf0bc33b0073d3017dd47e07b13820c094af942" : String).toList) := by kernel_rfl
theorem looks : true = Tryz.pinned.checked.prog.looks [] := by kernel_rfl
theorem noIns0 : Tryz.pinned.checked.prog.wantsStandIn 9 = false := by kernel_rfl
theorem noIns1 : Tryz.pinned.checked.prog.wantsStandIn 3 = false := by kernel_rfl
theorem goes : false = Rows.imageSumsRow.goesBy Tryz.pinned.checked.prog := by kernel_rfl
theorem proved : Rows.ImageSumsCardSaid :=
  Claim7.holds_tied_plain_at .later [] [.data, .widerDeep, .data] true (true, "06f46e8dbb361f4c8ebf1ebefdf0bc33b0073d3017dd47e07b13820c094af942") true
    over (fun _ h => by cases h) wfText (fun _ h => by cases h) imageSums_row_tie rfl ⟨rfl, rfl⟩ mainIs rfl
    (fun f fn hf hfn => by
      obtain rfl : f = 3 := Option.some.inj (named.symm.trans hf) |>.symm
      obtain rfl : fn = Tryz.f3 := (Option.some.inj (Tryz.func3.symm.trans hfn)).symm
      refine ⟨looks, fun j t ht => ?_⟩
      rw [Tryz.params3] at ht
      match j, ht with
      | 0, ht => cases ht; exact noIns0
      | 1, ht => cases ht; exact noIns1
      | 2, ht => cases ht; exact noIns1
      | j + 3, ht => simp at ht)
    goes
#print axioms proved
end ImageSums
end Go.Proofs.YtbcaceeiehjplacGreatDoor
