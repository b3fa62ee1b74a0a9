/-
  DERIVED. GIVEN WITH THE SEED: THE CARDS: each row of YtfboemcaneickaaGreatDoorRows.lean that lists a variable, with what it lists TIED to the program's text (the seventh form; the later family's looks); each row that meets fmt, with fmt's text TOLD by the authors' own Lean function (tested against real Go, not proved from fmt's source: count such statements apart). THE CARD IS WHAT COUNTS. Prove the row's statement (the work); the ties are given (YtfboemcaneickaaGreatDoorTie.lean); close each card by the builder's one call (the guide's Derived/Test/ToyasCard.lean, 'card_holds'). Laid BY PROGRAM, IN A SANDBOX (cutbox-door.mjs). By AI agents, Wed Nov 11 2026. No macro, syntax, notation, axiom, sorry.
-/
import Derived.Test.YtfboemcaneickaaGreatDoorRows
import GoSem.ClaimSeven
namespace Go.Proofs.YtfboemcaneickaaGreatDoor
namespace Rows

/-- THE TIED CARD OF 'presagelaw17.ForgeNil'. -/
def forgeNilCard : Claim7 := { stood := { row := forgeNilRow, standIns := [], harness := (true, "1744367f30c09ab2e4b1d34194a93071fa6dc665167ebaf9d1d62e0fba242918"), looks := true }, kinds := [], alts := [], laidByText := true, laidKinds := [.data, .widerDeep], laidTests := true, laidLooks := .later }
def ForgeNilCardSaid : Prop := Claim7.holds Tryz.pinned (.plain (OpenSpec.ofChange forgeNilSpec)) forgeNilCard

/-- THE SECOND FORM's CARD OF 'presagelaw17.ForgeNil'. -/
def forgeNilUptoCard : Claim7 := { stood := { row := forgeNilUptoRow, standIns := [], harness := (true, "1744367f30c09ab2e4b1d34194a93071fa6dc665167ebaf9d1d62e0fba242918"), looks := true }, kinds := [], alts := [], laidByText := true, laidKinds := [.data, .widerDeep], laidTests := true, laidLooks := .later }
def ForgeNilUptoCardSaid : Prop := Claim7.holds Tryz.pinned (.plain (OpenSpec.upto forgeNilSpec)) forgeNilUptoCard
end Rows
end Go.Proofs.YtfboemcaneickaaGreatDoor
