/-
  DERIVED. GIVEN WITH THE SEED: THE CARDS: each row of YtbcaceeiehjplacGreatDoorRows.lean that lists a variable, with what it lists TIED to the program's text (the seventh form; the later family's looks); each row that meets fmt, with fmt's text TOLD by the authors' own Lean function (tested against real Go, not proved from fmt's source: count such statements apart). THE CARD IS WHAT COUNTS. Prove the row's statement (the work); the ties are given (YtbcaceeiehjplacGreatDoorTie.lean); close each card by the builder's one call (the guide's Derived/Test/ToyasCard.lean, 'card_holds'). Laid BY PROGRAM, IN A SANDBOX (cutbox-door.mjs). By AI agents, Wed Nov 11 2026. No macro, syntax, notation, axiom, sorry.
-/
import Derived.Test.YtbcaceeiehjplacGreatDoorRows
import GoSem.ClaimSeven
namespace Go.Proofs.YtbcaceeiehjplacGreatDoor
namespace Rows

/-- THE TIED CARD OF 'presagelaw18.ImageSums'. -/
def imageSumsCard : Claim7 := { stood := { row := imageSumsRow, standIns := [], harness := (true, "06f46e8dbb361f4c8ebf1ebefdf0bc33b0073d3017dd47e07b13820c094af942"), looks := true }, kinds := [], alts := [], laidByText := true, laidKinds := [.data, .widerDeep, .data], laidTests := true, laidLooks := .later }
def ImageSumsCardSaid : Prop := Claim7.holds Tryz.pinned (.plain (OpenSpec.ofChange imageSumsSpec)) imageSumsCard

/-- THE SECOND FORM's CARD OF 'presagelaw18.ImageSums'. -/
def imageSumsUptoCard : Claim7 := { stood := { row := imageSumsUptoRow, standIns := [], harness := (true, "06f46e8dbb361f4c8ebf1ebefdf0bc33b0073d3017dd47e07b13820c094af942"), looks := true }, kinds := [], alts := [], laidByText := true, laidKinds := [.data, .widerDeep, .data], laidTests := true, laidLooks := .later }
def ImageSumsUptoCardSaid : Prop := Claim7.holds Tryz.pinned (.plain (OpenSpec.upto imageSumsSpec)) imageSumsUptoCard
end Rows
end Go.Proofs.YtbcaceeiehjplacGreatDoor
