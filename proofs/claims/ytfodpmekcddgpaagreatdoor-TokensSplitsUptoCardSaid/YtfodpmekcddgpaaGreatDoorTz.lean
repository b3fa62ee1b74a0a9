/- TokensSplits: whatever the line, of at most 1048576 values and letters: Split tells what the document's does, twice; under the condition that the tables are as the program's text lays them. -/
import Derived.Test.YtfodpmekcddgpaaGreatDoorTie
import Derived.Test.YtfodpmekcddgpaaGreatDoorCards
import Derived.Test.YtfodpmekcddgpaaGreatDoorToK
import Derived.Test.YtfodpmekcddgpaaGreatDoorWmZd
import Derived.Deep.DeepHandedRow
import Derived.Deep.DeepWitnessRowRef
namespace Go.Proofs.YtfodpmekcddgpaaGreatDoor
set_option linter.unusedSimpArgs false
set_option linter.unusedVariables false
open Go Go.Wm Go.Proofs Go.ChangeShapes Go.WideShapes Go.ChangeAt Go.RowKit
set_option maxRecDepth 100000
set_option maxHeartbeats 400000000
namespace TokensSplits
def laidL : List (String × DataW Unit) := [("math/bits.deBruijn64tab", Rows.laid_math_bits_deBruijn64tab), ("unicode/utf8.acceptRanges", Rows.laid_unicode_utf8_acceptRanges), ("presage/scan.orders", Rows.laid_presage_scan_orders), ("unicode/utf8.first", Rows.laid_unicode_utf8_first)]
theorem laidL_eq : Rows.tokensSplitsUptoRow.laid = laidL := rfl
theorem h0_of_laid {W : World} (h : laidMetH Tryz.prog laidL W) : ∃ σ, HRel Tryz.prog σ W.heap.size H0 W ∧ 0 < W.heap.size := by
  rw [MakeChecks.laidMetH_plain _ _ _ (by kernel_rfl)] at h
  obtain ⟨ps, ⟨g0, t0, cs0, f0, p0, q0, hg0, ht0, hv0, hd0, ⟨_, _, _, _, _, _, _, _, _, _, ⟨g1, t1, cs1, f1, p1, q1, hg1, ht1, hv1, hd1, _⟩, _⟩, _⟩, _, _⟩ := h
  obtain rfl := Option.some.inj (gTab.symm.trans hg0)
  obtain rfl := Option.some.inj (gOrd.symm.trans hg1)
  obtain rfl := Option.some.inj (tTab.symm.trans ht0)
  obtain rfl := Option.some.inj (tOrd.symm.trans ht1)
  rw [tab_eq] at hd0
  rw [ord_eq] at hd1
  have c0 := Lib.cells_of_tab uTab uU8 cU8 cTab hd0
  obtain ⟨a, c1, ha, hb, hs⟩ := strs_of_trod uOrd uStr cStr hd1 (by decide)
  exact h0_core (fun i => by rw [World.var?_cell hg0 hv0 i, ← Array.getElem?_toList, c0, List.getElem?_map]) (by rw [World.var?_cell hg1 hv1 0, ← Array.getElem?_toList, c1]; rfl) ha hb hs
def litV : DataW Unit → Value
  | .lit (.int k n) => .int k n
  | _ => .int .u8 0
def partsOf : DataW Unit → List (DataW Unit)
  | .agg l => l
  | _ => []
def firstCells : Array Value := ((partsOf Rows.laid_unicode_utf8_first).map litV).toArray
/-- a world for the witness: what the door lays, and the pinned table -/
noncomputable def world (os : Os) : World :=
  { World.doorLaid Tryz.prog 400 os with heap := (World.doorLaid Tryz.prog 400 os).heap.modify 2 fun
      | .cells _ t frozen => .cells firstCells t frozen
      | o => o }
def wargs : Array Value := #[.string ⟨#[]⟩]
theorem met (os : Os) : laidMetH Tryz.prog laidL ((world os).forCall (fun _ _ => 0) ⟨#[], wargs, []⟩).memory :=
  laidMetH_of_parts3 (fuel := 8) (laidMet_of_run' 8 (by kernel_rfl) (by kernel_rfl)) (by kernel_rfl) (by kernel_rfl)
theorem bulk {D : Type} {t : List UInt8} {gs : List (DataW D)} (h : Rows.uptoSmall D ([.lit (.string t)] ++ gs) = true) : t.length ≤ 1048576 := by
  have h := of_decide_eq_true h
  simp only [List.cons_append, List.nil_append, Rows.uptoBulkAll, Rows.uptoBulk] at h
  omega
theorem lawR {D : Type} (G : Hp) (vvs : List VV) (ds gs : List (DataW D)) (hk : Rows.uptoSmall D (ds ++ gs) = true) (h : ArgsRd Tryz.prog (H0 ++ G) [9] vvs ds) : FnV Tryz.prog 4 vvs (H0 ++ G) fun r _ => r = .bool true := by
  cases h with
  | cons h1 h2 =>
    cases h2
    obtain ⟨vs, h3, h4⟩ := h1
    obtain ⟨t, rfl, _, rfl⟩ := h3.str_inv uStr
    have e : isStruct Tryz.prog 9 = false := by unfold isStruct; rw [uStr]
    rw [e] at h4
    subst h4
    exact Tok.law4 G t (bulk hk)
theorem reads (os : Os) {H : Type} (enc : TypeId × Value → H) : ∃ places, DataW.whole enc Tryz.prog ((world os).forCall (fun _ _ => 0) ⟨#[], wargs, []⟩).memory Tryz.f4.params.toList Rows.tokensSplitsSpec.vars false wargs.toList 8 = some ([.lit (.string [])], [], places) :=
  ⟨[], by kernel_rfl⟩
theorem noInit : Tryz.prog.inits.idxOf? 4 = none := by kernel_rfl
theorem wVars (os : Os) : ((world os).forCall (fun _ _ => 0) ⟨#[], wargs, []⟩).variablesRefB Tryz.checked.prog = true := by kernel_rfl
theorem wHeap (os : Os) : (((world os).forCall (fun _ _ => 0) ⟨#[], wargs, []⟩).heap.toList.drop Tryz.checked.prog.globals.size).take ((begin Tryz.checked.prog (fun _ _ => 0) default).world.heap.size - Tryz.checked.prog.globals.size) = (begin Tryz.checked.prog (fun _ _ => 0) default).world.heap.toList.drop Tryz.checked.prog.globals.size := by kernel_rfl
theorem wOk (os : Os) : Input.okWideB Tryz.checked.prog ((world os).forCall (fun _ _ => 0) ⟨#[], wargs, []⟩) 4 ⟨#[], wargs, []⟩ = true := by kernel_rfl
theorem wSized (os : Os) {H : Type} (enc : TypeId × Value → H) : (Rows.OpenSpec.upto Rows.tokensSplitsSpec).bare.sizedB enc Tryz.prog Tryz.f4 false ((world os).forCall (fun _ _ => 0) ⟨#[], wargs, []⟩).memory wargs 8 = true := by kernel_rfl
theorem rdAll : ∀ t ∈ Tryz.f4.params.toList, Tryz.prog.readableRec t = true ∧ t < Tryz.prog.types.size := by decide +kernel
theorem plAll : ∀ t ∈ Tryz.f4.params.toList, plainB Tryz.prog 5 t = true := by decide +kernel
theorem resT : Tryz.f4.resultTypes = #[4] := by kernel_rfl
theorem lifted (os : Os) (started : os.Started) (H : Type) (enc : TypeId × Value → H) (F : Stop.Interp) :
    ReturnsInHanded {} Tryz.checked os 4 .any ((Rows.OpenSpec.upto Rows.tokensSplitsSpec).preRow enc Tryz.prog Tryz.f4 Rows.tokensSplitsUptoRow.domain false Rows.tokensSplitsUptoRow.laid) (((Rows.OpenSpec.upto Rows.tokensSplitsSpec).at F).post enc Tryz.prog Tryz.f4 false true false false) := by
  obtain ⟨places, hx⟩ := reads os enc
  refine returnsInHanded_of_row (C := Tryz.checked) (s := Rows.OpenSpec.upto Rows.tokensSplitsSpec) own started noInit Tryz.func4
    (witness_row_atRef (enc := enc) (C := Tryz.checked) false (world os) wargs rfl (wVars os) (wHeap os) (wOk os)
      (OpenSpec.preRow_of_cond 8 hx rfl (fun k hk => by cases hk; rfl) (wSized os enc) (met os))) ?_
  intro W base args ds gs before hval hW _ hk _ hL _ _
  obtain ⟨σ, h0, hpos⟩ := h0_of_laid hL
  exact law_contract_at (s := Rows.tokensSplitsSpec) (tb := 4) (d0 := 5) hpos laidOut rdAll plAll rfl resT uBool (fun ds hl => by
    have hl' : ds.length = 1 := hl
    match ds, hl' with
    | [_], _ => rfl) h0 args ds gs (fun G vvs h => by
      have h' : ArgsRd Tryz.prog (H0 ++ G) Tryz.f4.params.toList vvs ds := h
      rw [Tryz.params4] at h'
      exact lawR G vvs ds gs (hk _ rfl) h') before base hval hW
theorem facts : joinedFacts Tryz.pinned.checked.prog 4 Tryz.f4 (Rows.OpenSpec.upto Rows.tokensSplitsSpec).bare Rows.tokensSplitsUptoRow = true := by
  unfold joinedFacts
  repeat' with_reducible refine and2 ?_ ?_
  all_goals as_aux_lemma => kernel_rfl
theorem named : Tryz.pinned.checked.prog.funcNamed Rows.tokensSplitsUptoRow.func = some 4 := by kernel_rfl
theorem over : Rows.TokensSplitsUptoSaid :=
  OpenClaim.holds_of_cond 4 Tryz.f4 rfl rfl rfl rfl rfl rfl rfl ⟨rfl, rfl, rfl, rfl, rfl⟩ rfl rfl rfl rfl rfl named Tryz.func4 facts
    (of_decide_eq_true (by kernel_rfl)) (by unfold Func.isWrapper; first | (rw [if_pos (by decide +kernel)]; kernel_rfl) | (rw [if_neg (by decide +kernel)]; exact ⟨rfl, rfl⟩))
    (fun os started H enc _ F => by rw [OpenClaim.pre_eq_preRow]; exact lifted os started H enc F)
theorem wfText : Rows.tokensSplitsUptoRow.wfByText (Rows.OpenSpec.upto Rows.tokensSplitsSpec) = true := by kernel_rfl
theorem mainIs : Tryz.pinned.checked.prog.mainIs = some (true, ("d5fdf64d98ccf102001c4939d1f67ccb54fa9cb0f6ec3fa5e0b520541142ad79" : String).toList) := by kernel_rfl
theorem looks : true = Tryz.pinned.checked.prog.looks [] := by kernel_rfl
theorem noIns0 : Tryz.pinned.checked.prog.wantsStandIn 9 = false := by kernel_rfl
theorem goes : false = Rows.tokensSplitsUptoRow.goesBy Tryz.pinned.checked.prog := by kernel_rfl
theorem proved : Rows.TokensSplitsUptoCardSaid :=
  Claim7.holds_tied_plain_at .later [] [.data, .data, .widerDeep, .pinned] true (true, "d5fdf64d98ccf102001c4939d1f67ccb54fa9cb0f6ec3fa5e0b520541142ad79") true
    over (fun _ h => by cases h) wfText (fun _ h => by cases h) tokensSplitsUpto_row_tie rfl ⟨rfl, rfl⟩ mainIs rfl
    (fun f fn hf hfn => by
      obtain rfl : f = 4 := Option.some.inj (named.symm.trans hf) |>.symm
      obtain rfl : fn = Tryz.f4 := (Option.some.inj (Tryz.func4.symm.trans hfn)).symm
      refine ⟨looks, fun j t ht => ?_⟩
      rw [Tryz.params4] at ht
      match j, ht with
      | 0, ht => cases ht; exact noIns0
      | j + 1, ht => simp at ht)
    goes
#print axioms proved
end TokensSplits
end Go.Proofs.YtfodpmekcddgpaaGreatDoor
