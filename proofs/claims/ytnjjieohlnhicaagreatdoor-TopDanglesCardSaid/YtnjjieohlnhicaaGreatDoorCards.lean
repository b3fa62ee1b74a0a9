/-
  DERIVED. GIVEN WITH THE SEED: THE CARDS: each row of YtnjjieohlnhicaaGreatDoorRows.lean that lists a variable, with what it lists TIED to the program's text (the seventh form; the later family's looks); each row that meets fmt, with fmt's text TOLD by the authors' own Lean function (tested against real Go, not proved from fmt's source: count such statements apart). THE CARD IS WHAT COUNTS. Prove the row's statement (the work); the ties are given (YtnjjieohlnhicaaGreatDoorTie.lean); close each card by the builder's one call (the guide's Derived/Test/ToyasCard.lean, 'card_holds'). Laid BY PROGRAM, IN A SANDBOX (cutbox-door.mjs). By AI agents, Wed Nov 11 2026. No macro, syntax, notation, axiom, sorry.
-/
import Derived.Test.YtnjjieohlnhicaaGreatDoorRows
import GoSem.ClaimSeven
namespace Go.Proofs.YtnjjieohlnhicaaGreatDoor
namespace Rows

/-- THE TIED CARD OF 'presagetop.TopDangles'. -/
def topDanglesCard : Claim7 := { stood := { row := topDanglesRow, standIns := [], harness := (true, "60b0e9331b8b5bbe21e743855b37f4f0897cd3c933519a81d3e67fbabc082f29"), looks := true }, kinds := [], alts := [], laidByText := true, laidKinds := [.data, .widerDeep], laidTests := true, laidLooks := .later }
def TopDanglesCardSaid : Prop := Claim7.holds Tryz.pinned (.plain (OpenSpec.ofChange topDanglesSpec)) topDanglesCard

/-- THE SECOND FORM's CARD OF 'presagetop.TopDangles'. -/
def topDanglesUptoCard : Claim7 := { stood := { row := topDanglesUptoRow, standIns := [], harness := (true, "60b0e9331b8b5bbe21e743855b37f4f0897cd3c933519a81d3e67fbabc082f29"), looks := true }, kinds := [], alts := [], laidByText := true, laidKinds := [.data, .widerDeep], laidTests := true, laidLooks := .later }
def TopDanglesUptoCardSaid : Prop := Claim7.holds Tryz.pinned (.plain (OpenSpec.upto topDanglesSpec)) topDanglesUptoCard
end Rows
end Go.Proofs.YtnjjieohlnhicaaGreatDoor
