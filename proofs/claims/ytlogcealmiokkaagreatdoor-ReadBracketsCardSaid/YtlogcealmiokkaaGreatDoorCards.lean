/-
  DERIVED. GIVEN WITH THE SEED: THE CARDS: each row of YtlogcealmiokkaaGreatDoorRows.lean that lists a variable, with what it lists TIED to the program's text (the seventh form; the later family's looks); each row that meets fmt, with fmt's text TOLD by the authors' own Lean function (tested against real Go, not proved from fmt's source: count such statements apart). THE CARD IS WHAT COUNTS. Prove the row's statement (the work); the ties are given (YtlogcealmiokkaaGreatDoorTie.lean); close each card by the builder's one call (the guide's Derived/Test/ToyasCard.lean, 'card_holds'). Laid BY PROGRAM, IN A SANDBOX (cutbox-door.mjs). By AI agents, Wed Nov 11 2026. No macro, syntax, notation, axiom, sorry.
-/
import Derived.Test.YtlogcealmiokkaaGreatDoorRows
import GoSem.ClaimSeven
namespace Go.Proofs.YtlogcealmiokkaaGreatDoor
namespace Rows

/-- THE TIED CARD OF 'coneylaw05.ReadJoined'. -/
def readJoinedCard : Claim7 := { stood := { row := readJoinedRow, standIns := [], harness := (true, "5b729811fca5d3aa584de8cdf4df0ad42c25ad86871a6aaa3dcb628122f49ac4"), looks := true }, kinds := [], alts := [], laidByText := true, laidKinds := [.data, .data, .data, .data, .data, .sentinel, .sentinel, .pinned], laidTests := true, laidLooks := .later }
def ReadJoinedCardSaid : Prop := Claim7.holds Tryz.pinned (.plain (OpenSpec.ofChange readJoinedSpec)) readJoinedCard

/-- THE TIED CARD OF 'coneylaw05.ReadNames'. -/
def readNamesCard : Claim7 := { stood := { row := readNamesRow, standIns := [], harness := (true, "5b729811fca5d3aa584de8cdf4df0ad42c25ad86871a6aaa3dcb628122f49ac4"), looks := true }, kinds := [], alts := [], laidByText := true, laidKinds := [.data, .data, .data, .data, .data, .sentinel, .sentinel, .pinned], laidTests := true, laidLooks := .later }
def ReadNamesCardSaid : Prop := Claim7.holds Tryz.pinned (.plain (OpenSpec.ofChange readNamesSpec)) readNamesCard

/-- THE TIED CARD OF 'coneylaw05.ReadOperators'. -/
def readOperatorsCard : Claim7 := { stood := { row := readOperatorsRow, standIns := [], harness := (true, "5b729811fca5d3aa584de8cdf4df0ad42c25ad86871a6aaa3dcb628122f49ac4"), looks := true }, kinds := [], alts := [], laidByText := true, laidKinds := [.data, .data, .data, .data, .data, .sentinel, .sentinel, .pinned], laidTests := true, laidLooks := .later }
def ReadOperatorsCardSaid : Prop := Claim7.holds Tryz.pinned (.plain (OpenSpec.ofChange readOperatorsSpec)) readOperatorsCard

/-- THE TIED CARD OF 'coneylaw05.ReadLists'. -/
def readListsCard : Claim7 := { stood := { row := readListsRow, standIns := [], harness := (true, "5b729811fca5d3aa584de8cdf4df0ad42c25ad86871a6aaa3dcb628122f49ac4"), looks := true }, kinds := [], alts := [], laidByText := true, laidKinds := [.data, .data, .data, .data, .data, .sentinel, .sentinel, .pinned], laidTests := true, laidLooks := .later }
def ReadListsCardSaid : Prop := Claim7.holds Tryz.pinned (.plain (OpenSpec.ofChange readListsSpec)) readListsCard

/-- THE TIED CARD OF 'coneylaw05.ReadNumbers'. -/
def readNumbersCard : Claim7 := { stood := { row := readNumbersRow, standIns := [], harness := (true, "5b729811fca5d3aa584de8cdf4df0ad42c25ad86871a6aaa3dcb628122f49ac4"), looks := true }, kinds := [], alts := [], laidByText := true, laidKinds := [.data, .data, .data, .data, .data, .sentinel, .sentinel, .pinned], laidTests := true, laidLooks := .later }
def ReadNumbersCardSaid : Prop := Claim7.holds Tryz.pinned (.plain (OpenSpec.ofChange readNumbersSpec)) readNumbersCard

/-- THE TIED CARD OF 'coneylaw05.ReadBrackets'. -/
def readBracketsCard : Claim7 := { stood := { row := readBracketsRow, standIns := [], harness := (true, "5b729811fca5d3aa584de8cdf4df0ad42c25ad86871a6aaa3dcb628122f49ac4"), looks := true }, kinds := [], alts := [], laidByText := true, laidKinds := [.data, .data, .data, .data, .data, .sentinel, .sentinel, .pinned], laidTests := true, laidLooks := .later }
def ReadBracketsCardSaid : Prop := Claim7.holds Tryz.pinned (.plain (OpenSpec.ofChange readBracketsSpec)) readBracketsCard

/-- THE SECOND FORM's CARD OF 'coneylaw05.ReadJoined'. -/
def readJoinedUptoCard : Claim7 := { stood := { row := readJoinedUptoRow, standIns := [], harness := (true, "5b729811fca5d3aa584de8cdf4df0ad42c25ad86871a6aaa3dcb628122f49ac4"), looks := true }, kinds := [], alts := [], laidByText := true, laidKinds := [.data, .data, .data, .data, .data, .sentinel, .sentinel, .pinned], laidTests := true, laidLooks := .later }
def ReadJoinedUptoCardSaid : Prop := Claim7.holds Tryz.pinned (.plain (OpenSpec.upto readJoinedSpec)) readJoinedUptoCard

/-- THE SECOND FORM's CARD OF 'coneylaw05.ReadNames'. -/
def readNamesUptoCard : Claim7 := { stood := { row := readNamesUptoRow, standIns := [], harness := (true, "5b729811fca5d3aa584de8cdf4df0ad42c25ad86871a6aaa3dcb628122f49ac4"), looks := true }, kinds := [], alts := [], laidByText := true, laidKinds := [.data, .data, .data, .data, .data, .sentinel, .sentinel, .pinned], laidTests := true, laidLooks := .later }
def ReadNamesUptoCardSaid : Prop := Claim7.holds Tryz.pinned (.plain (OpenSpec.upto readNamesSpec)) readNamesUptoCard

/-- THE SECOND FORM's CARD OF 'coneylaw05.ReadOperators'. -/
def readOperatorsUptoCard : Claim7 := { stood := { row := readOperatorsUptoRow, standIns := [], harness := (true, "5b729811fca5d3aa584de8cdf4df0ad42c25ad86871a6aaa3dcb628122f49ac4"), looks := true }, kinds := [], alts := [], laidByText := true, laidKinds := [.data, .data, .data, .data, .data, .sentinel, .sentinel, .pinned], laidTests := true, laidLooks := .later }
def ReadOperatorsUptoCardSaid : Prop := Claim7.holds Tryz.pinned (.plain (OpenSpec.upto readOperatorsSpec)) readOperatorsUptoCard

/-- THE SECOND FORM's CARD OF 'coneylaw05.ReadLists'. -/
def readListsUptoCard : Claim7 := { stood := { row := readListsUptoRow, standIns := [], harness := (true, "5b729811fca5d3aa584de8cdf4df0ad42c25ad86871a6aaa3dcb628122f49ac4"), looks := true }, kinds := [], alts := [], laidByText := true, laidKinds := [.data, .data, .data, .data, .data, .sentinel, .sentinel, .pinned], laidTests := true, laidLooks := .later }
def ReadListsUptoCardSaid : Prop := Claim7.holds Tryz.pinned (.plain (OpenSpec.upto readListsSpec)) readListsUptoCard

/-- THE SECOND FORM's CARD OF 'coneylaw05.ReadNumbers'. -/
def readNumbersUptoCard : Claim7 := { stood := { row := readNumbersUptoRow, standIns := [], harness := (true, "5b729811fca5d3aa584de8cdf4df0ad42c25ad86871a6aaa3dcb628122f49ac4"), looks := true }, kinds := [], alts := [], laidByText := true, laidKinds := [.data, .data, .data, .data, .data, .sentinel, .sentinel, .pinned], laidTests := true, laidLooks := .later }
def ReadNumbersUptoCardSaid : Prop := Claim7.holds Tryz.pinned (.plain (OpenSpec.upto readNumbersSpec)) readNumbersUptoCard

/-- THE SECOND FORM's CARD OF 'coneylaw05.ReadBrackets'. -/
def readBracketsUptoCard : Claim7 := { stood := { row := readBracketsUptoRow, standIns := [], harness := (true, "5b729811fca5d3aa584de8cdf4df0ad42c25ad86871a6aaa3dcb628122f49ac4"), looks := true }, kinds := [], alts := [], laidByText := true, laidKinds := [.data, .data, .data, .data, .data, .sentinel, .sentinel, .pinned], laidTests := true, laidLooks := .later }
def ReadBracketsUptoCardSaid : Prop := Claim7.holds Tryz.pinned (.plain (OpenSpec.upto readBracketsSpec)) readBracketsUptoCard
end Rows
end Go.Proofs.YtlogcealmiokkaaGreatDoor
