/-
  DERIVED. GIVEN WITH THE SEED: THE CARDS: each row of YtfodpmekcddgpaaGreatDoorRows.lean that lists a variable, with what it lists TIED to the program's text (the seventh form; the later family's looks); each row that meets fmt, with fmt's text TOLD by the authors' own Lean function (tested against real Go, not proved from fmt's source: count such statements apart). THE CARD IS WHAT COUNTS. Prove the row's statement (the work); the ties are given (YtfodpmekcddgpaaGreatDoorTie.lean); close each card by the builder's one call (the guide's Derived/Test/ToyasCard.lean, 'card_holds'). Laid BY PROGRAM, IN A SANDBOX (cutbox-door.mjs). By AI agents, Wed Nov 11 2026. No macro, syntax, notation, axiom, sorry.
-/
import Derived.Test.YtfodpmekcddgpaaGreatDoorRows
import GoSem.ClaimSeven
namespace Go.Proofs.YtfodpmekcddgpaaGreatDoor
namespace Rows

/-- THE TIED CARD OF 'presagelaw18.ImageSums'. -/
def imageSumsCard : Claim7 := { stood := { row := imageSumsRow, standIns := [], harness := (true, "d5fdf64d98ccf102001c4939d1f67ccb54fa9cb0f6ec3fa5e0b520541142ad79"), looks := true }, kinds := [], alts := [], laidByText := true, laidKinds := [.data, .widerDeep, .data], laidTests := true, laidLooks := .later }
def ImageSumsCardSaid : Prop := Claim7.holds Tryz.pinned (.plain (OpenSpec.ofChange imageSumsSpec)) imageSumsCard

/-- THE TIED CARD OF 'presagelaw19.TokensSplits'. -/
def tokensSplitsCard : Claim7 := { stood := { row := tokensSplitsRow, standIns := [], harness := (true, "d5fdf64d98ccf102001c4939d1f67ccb54fa9cb0f6ec3fa5e0b520541142ad79"), looks := true }, kinds := [], alts := [], laidByText := true, laidKinds := [.data, .data, .widerDeep, .pinned], laidTests := true, laidLooks := .later }
def TokensSplitsCardSaid : Prop := Claim7.holds Tryz.pinned (.plain (OpenSpec.ofChange tokensSplitsSpec)) tokensSplitsCard

/-- THE TIED CARD OF 'presagelaw19.TokensJoins'. -/
def tokensJoinsCard : Claim7 := { stood := { row := tokensJoinsRow, standIns := [], harness := (true, "d5fdf64d98ccf102001c4939d1f67ccb54fa9cb0f6ec3fa5e0b520541142ad79"), looks := true }, kinds := [], alts := [], laidByText := true, laidKinds := [.data, .data, .widerDeep, .pinned], laidTests := true, laidLooks := .later }
def TokensJoinsCardSaid : Prop := Claim7.holds Tryz.pinned (.plain (OpenSpec.ofChange tokensJoinsSpec)) tokensJoinsCard

/-- THE TIED CARD OF 'presagelaw23.DriveNil'. -/
def driveNilCard : Claim7 := { stood := { row := driveNilRow, standIns := [], harness := (true, "d5fdf64d98ccf102001c4939d1f67ccb54fa9cb0f6ec3fa5e0b520541142ad79"), looks := true }, kinds := [], alts := [], laidByText := true, laidKinds := [.data, .widerDeep], laidTests := true, laidLooks := .later }
def DriveNilCardSaid : Prop := Claim7.holds Tryz.pinned (.plain (OpenSpec.ofChange driveNilSpec)) driveNilCard

/-- THE SECOND FORM's CARD OF 'presagelaw18.ImageSums'. -/
def imageSumsUptoCard : Claim7 := { stood := { row := imageSumsUptoRow, standIns := [], harness := (true, "d5fdf64d98ccf102001c4939d1f67ccb54fa9cb0f6ec3fa5e0b520541142ad79"), looks := true }, kinds := [], alts := [], laidByText := true, laidKinds := [.data, .widerDeep, .data], laidTests := true, laidLooks := .later }
def ImageSumsUptoCardSaid : Prop := Claim7.holds Tryz.pinned (.plain (OpenSpec.upto imageSumsSpec)) imageSumsUptoCard

/-- THE SECOND FORM's CARD OF 'presagelaw19.TokensSplits'. -/
def tokensSplitsUptoCard : Claim7 := { stood := { row := tokensSplitsUptoRow, standIns := [], harness := (true, "d5fdf64d98ccf102001c4939d1f67ccb54fa9cb0f6ec3fa5e0b520541142ad79"), looks := true }, kinds := [], alts := [], laidByText := true, laidKinds := [.data, .data, .widerDeep, .pinned], laidTests := true, laidLooks := .later }
def TokensSplitsUptoCardSaid : Prop := Claim7.holds Tryz.pinned (.plain (OpenSpec.upto tokensSplitsSpec)) tokensSplitsUptoCard

/-- THE SECOND FORM's CARD OF 'presagelaw19.TokensJoins'. -/
def tokensJoinsUptoCard : Claim7 := { stood := { row := tokensJoinsUptoRow, standIns := [], harness := (true, "d5fdf64d98ccf102001c4939d1f67ccb54fa9cb0f6ec3fa5e0b520541142ad79"), looks := true }, kinds := [], alts := [], laidByText := true, laidKinds := [.data, .data, .widerDeep, .pinned], laidTests := true, laidLooks := .later }
def TokensJoinsUptoCardSaid : Prop := Claim7.holds Tryz.pinned (.plain (OpenSpec.upto tokensJoinsSpec)) tokensJoinsUptoCard

/-- THE SECOND FORM's CARD OF 'presagelaw23.DriveNil'. -/
def driveNilUptoCard : Claim7 := { stood := { row := driveNilUptoRow, standIns := [], harness := (true, "d5fdf64d98ccf102001c4939d1f67ccb54fa9cb0f6ec3fa5e0b520541142ad79"), looks := true }, kinds := [], alts := [], laidByText := true, laidKinds := [.data, .widerDeep], laidTests := true, laidLooks := .later }
def DriveNilUptoCardSaid : Prop := Claim7.holds Tryz.pinned (.plain (OpenSpec.upto driveNilSpec)) driveNilUptoCard
end Rows
end Go.Proofs.YtfodpmekcddgpaaGreatDoor
