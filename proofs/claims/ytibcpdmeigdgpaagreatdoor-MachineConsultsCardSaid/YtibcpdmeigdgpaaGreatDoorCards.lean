/-
  DERIVED. GIVEN WITH THE SEED: THE CARDS: each row of YtibcpdmeigdgpaaGreatDoorRows.lean that lists a variable, with what it lists TIED to the program's text (the seventh form; the later family's looks); each row that meets fmt, with fmt's text TOLD by the authors' own Lean function (tested against real Go, not proved from fmt's source: count such statements apart). THE CARD IS WHAT COUNTS. Prove the row's statement (the work); the ties are given (YtibcpdmeigdgpaaGreatDoorTie.lean); close each card by the builder's one call (the guide's Derived/Test/ToyasCard.lean, 'card_holds'). Laid BY PROGRAM, IN A SANDBOX (cutbox-door.mjs). By AI agents, Wed Nov 11 2026. No macro, syntax, notation, axiom, sorry.
-/
import Derived.Test.YtibcpdmeigdgpaaGreatDoorRows
import GoSem.ClaimSeven
namespace Go.Proofs.YtibcpdmeigdgpaaGreatDoor
namespace Rows

/-- THE TIED CARD OF 'coneylaw20.MachineConsults'. -/
def machineConsultsCard : Claim7 := { stood := { row := machineConsultsRow, standIns := [], harness := (true, "0b818d70095234d7aea083bbdbb6d4e346650f4a2b9f445411b310c44ddb15b9"), looks := true }, kinds := [], alts := [], laidByText := true, laidKinds := [.data, .data, .data, .data, .data, .sentinel, .sentinel, .data, .pinned], laidTests := true, laidLooks := .later }
def MachineConsultsCardSaid : Prop := Claim7.holds Tryz.pinned (.plain (OpenSpec.ofChange machineConsultsSpec)) machineConsultsCard

/-- THE SECOND FORM's CARD OF 'coneylaw20.MachineConsults'. -/
def machineConsultsUptoCard : Claim7 := { stood := { row := machineConsultsUptoRow, standIns := [], harness := (true, "0b818d70095234d7aea083bbdbb6d4e346650f4a2b9f445411b310c44ddb15b9"), looks := true }, kinds := [], alts := [], laidByText := true, laidKinds := [.data, .data, .data, .data, .data, .sentinel, .sentinel, .data, .pinned], laidTests := true, laidLooks := .later }
def MachineConsultsUptoCardSaid : Prop := Claim7.holds Tryz.pinned (.plain (OpenSpec.upto machineConsultsSpec)) machineConsultsUptoCard
end Rows
end Go.Proofs.YtibcpdmeigdgpaaGreatDoor
