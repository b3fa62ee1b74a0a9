/- DriveNil: whatever the row and the raw texts: of no system there is no parser, and zero ones answer as the document says; under the condition that the two tables are as the program's text lays them. -/
import Derived.Test.YtfodpmekcddgpaaGreatDoorLz
import Derived.Test.YtfodpmekcddgpaaGreatDoorTie
import Derived.Test.YtfodpmekcddgpaaGreatDoorCards
import Derived.Test.YtfodpmekcddgpaaGreatDoorPDk
namespace Go.Proofs.YtfodpmekcddgpaaGreatDoor
set_option linter.unusedSimpArgs false
set_option linter.unusedVariables false
open Go Go.Wm Go.Proofs Go.ChangeShapes Go.WideShapes Go.ChangeAt Go.RowKit
set_option maxRecDepth 100000
set_option maxHeartbeats 400000000
namespace DriveNil
def laidL : List (String × DataW Unit) := [("math/bits.deBruijn64tab", Rows.laid_math_bits_deBruijn64tab), ("presage/scan.orders", Rows.laid_presage_scan_orders)]
theorem laidL_eq : Rows.driveNilRow.laid = laidL := rfl
theorem h0_of_laid {W : World} (h : laidMetH Tryz.prog laidL W) : ∃ σ, HRel Tryz.prog σ W.heap.size H0 W ∧ 0 < W.heap.size := by
  rw [MakeChecks.laidMetH_plain _ _ _ (by kernel_rfl)] at h
  obtain ⟨ps, ⟨g0, t0, cs0, f0, p0, q0, hg0, ht0, hv0, hd0, ⟨g1, t1, cs1, f1, p1, q1, hg1, ht1, hv1, hd1, _, _⟩, _⟩, _, _⟩ := h
  obtain rfl := Option.some.inj (gTab.symm.trans hg0)
  obtain rfl := Option.some.inj (gOrd.symm.trans hg1)
  obtain rfl := Option.some.inj (tTab.symm.trans ht0)
  obtain rfl := Option.some.inj (tOrd.symm.trans ht1)
  rw [tab_eq] at hd0
  rw [ord_eq] at hd1
  have c0 := Lib.cells_of_tab uTab uU8 cU8 cTab hd0
  obtain ⟨a, c1, ha, hb, hs⟩ := strs_of_trod uOrd uStr cStr hd1 (by decide)
  exact h0_core (fun i => by rw [World.var?_cell hg0 hv0 i, ← Array.getElem?_toList, c0, List.getElem?_map]) (by rw [World.var?_cell hg1 hv1 0, ← Array.getElem?_toList, c1]; rfl) ha hb hs
theorem rep : TRep C11.T H0 := rep_of [] rfl (by kernel_rfl) (by kernel_rfl) (by kernel_rfl) (by kernel_rfl) (tree4 _ _ _ _)
theorem law : FnV Tryz.prog 6 [.undef, .undef] H0 fun r _ => r = .bool true := by
  obtain ⟨H2, _, h⟩ := cut11 H0 rep
  exact h.mono fun r H' hr => hr.1
theorem lawG (G : Hp) {vvs : List VV} (hl : vvs.length = 2) : FnV Tryz.prog 6 vvs (H0 ++ G) fun r _ => r = .bool true :=
  (FnV.blind (n := 2) ((law.beside (fun v hv => by rcases List.mem_cons.1 hv with rfl | hv; rfl; rcases List.mem_cons.1 hv with rfl | hv; rfl; cases hv) rfl ro0 (by decide) G).mono fun r H' hr => hr.1) hl)
theorem door_met (os : Os) (args : Array Value) : laidMetH Tryz.prog laidL ((World.doorLaid Tryz.prog 400 os).forCall (fun _ _ => 0) ⟨#[], args, []⟩).memory :=
  laidMetH_of_parts3 (fuel := 8) (laidMet_of_run' 8 (by kernel_rfl) (by kernel_rfl)) (by kernel_rfl) (by kernel_rfl)
theorem lifted (os : Os) (started : os.Started) (H : Type) (enc : TypeId × Value → H) :
    ReturnsInHanded {} Tryz.checked os 6 .any (fun w args => (Rows.driveNilSpec.pre enc Tryz.prog Tryz.f6 [] false w args ∧ laidMetH Tryz.prog laidL w) ∧ sizedMet enc Tryz.prog Tryz.f6 (OpenSpec.ofChange Rows.driveNilSpec) false w args)
      (Rows.driveNilSpec.post enc Tryz.prog Tryz.f6 false true false false) := by
  refine returnsInHanded_of_change_and (C := Tryz.checked) (X := fun w _ => laidMetH Tryz.prog laidL w) (fun _ _ _ hh h => h.of_heap hh) own started (by kernel_rfl) Tryz.func6
    (ChangeSpec.witness_shaped (enc := enc) (C := Tryz.checked) (os := os) (X := fun w _ => laidMetH Tryz.prog laidL w) false (World.doorLaid Tryz.prog 400 os) #[.slice none 0 0, .slice none 0 0] 8 rfl (World.shaped_of_RefB (by kernel_rfl) (by kernel_rfl)) (by kernel_rfl) (by kernel_rfl) (by kernel_rfl) (door_met os _)) ?_
  intro W base args ds gs before hval hW _ _ hL _
  obtain ⟨σ, h0, hpos⟩ := h0_of_laid hL
  exact law_contract (s := Rows.driveNilSpec) (tb := 4) (d0 := 5) hpos laidOut (by decide +kernel) (by decide +kernel) rfl (by kernel_rfl) uBool (fun ds hl => by
    have hl' : ds.length = 2 := hl
    match ds, hl' with
    | [_, _], _ => rfl) h0 (fun G vvs ds h => by
      have h' : ArgsRd Tryz.prog (H0 ++ G) Tryz.f6.params.toList vvs ds := h
      rw [Tryz.params6] at h'
      refine lawG G ?_
      cases h' with
      | cons _ h' => cases h' with
        | cons _ h' => cases h'; rfl) args ds gs before base hval hW
theorem facts : joinedFacts Tryz.pinned.checked.prog 6 Tryz.f6 Rows.driveNilSpec Rows.driveNilRow = true := by
  unfold joinedFacts
  repeat' with_reducible refine and2 ?_ ?_
  all_goals as_aux_lemma => kernel_rfl
theorem named : Tryz.pinned.checked.prog.funcNamed Rows.driveNilRow.func = some 6 := by kernel_rfl
theorem over : Rows.DriveNilSaid :=
  OpenClaim.holds_of_wide 6 Tryz.f6 rfl rfl rfl rfl rfl rfl rfl ⟨rfl, rfl, rfl, rfl, rfl⟩ rfl rfl rfl rfl rfl named Tryz.func6 facts
    (of_decide_eq_true (by kernel_rfl)) (by unfold Func.isWrapper; first | (rw [if_pos (by decide +kernel)]; kernel_rfl) | (rw [if_neg (by decide +kernel)]; exact ⟨rfl, rfl⟩))
    (fun os started H enc _ => lifted os started H enc)
theorem wfText : Rows.driveNilRow.wfByText (OpenSpec.ofChange Rows.driveNilSpec) = true := by kernel_rfl
theorem mainIs : Tryz.pinned.checked.prog.mainIs = some (true, ("d5fdf64d98ccf102001c4939d1f67ccb54fa9cb0f6ec3fa5e0b520541142ad79" : String).toList) := by kernel_rfl
theorem looks : true = Tryz.pinned.checked.prog.looks [] := by kernel_rfl
theorem noIns0 : Tryz.pinned.checked.prog.wantsStandIn 32 = false := by kernel_rfl
theorem noIns1 : Tryz.pinned.checked.prog.wantsStandIn 28 = false := by kernel_rfl
theorem goes : false = Rows.driveNilRow.goesBy Tryz.pinned.checked.prog := by kernel_rfl
theorem proved : Rows.DriveNilCardSaid :=
  Claim7.holds_tied_plain_at .later [] [.data, .widerDeep] true (true, "d5fdf64d98ccf102001c4939d1f67ccb54fa9cb0f6ec3fa5e0b520541142ad79") true
    over (fun _ h => by cases h) wfText (fun _ h => by cases h) driveNil_row_tie rfl ⟨rfl, rfl⟩ mainIs rfl
    (fun f fn hf hfn => by
      obtain rfl : f = 6 := Option.some.inj (named.symm.trans hf) |>.symm
      obtain rfl : fn = Tryz.f6 := (Option.some.inj (Tryz.func6.symm.trans hfn)).symm
      refine ⟨looks, fun j t ht => ?_⟩
      rw [Tryz.params6] at ht
      match j, ht with
      | 0, ht => cases ht; exact noIns0
      | 1, ht => cases ht; exact noIns1
      | j + 2, ht => simp at ht)
    goes
#print axioms proved
end DriveNil
end Go.Proofs.YtfodpmekcddgpaaGreatDoor
