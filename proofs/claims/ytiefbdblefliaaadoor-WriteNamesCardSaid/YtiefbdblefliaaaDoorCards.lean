/-
  DERIVED. GIVEN WITH THE SEED: THE CARDS: each row of YtiefbdblefliaaaDoorRows.lean that lists a variable, with what it lists TIED to the program's text (the seventh form; the later family's looks); each row that meets fmt, with fmt's text TOLD by the authors' own Lean function (tested against real Go, not proved from fmt's source: count such statements apart). THE CARD IS WHAT COUNTS. Prove the row's statement (the work); the ties are given (YtiefbdblefliaaaDoorTie.lean); close each card by the builder's one call (the guide's Derived/Test/ToyasCard.lean, 'card_holds'). Laid BY PROGRAM, IN A SANDBOX (cutbox-door.mjs). By AI agents, Wed Nov 11 2026. No macro, syntax, notation, axiom, sorry.
-/
import Derived.Test.YtiefbdblefliaaaDoorRows
import GoSem.ClaimSeven
namespace Go.Proofs.YtiefbdblefliaaaDoor
namespace Rows

/-- THE TIED CARD OF 'coneylaw06.WriteNames'. -/
def writeNamesCard : Claim7 := { stood := { row := writeNamesRow, standIns := [], harness := (true, "062c922870e1a75cef95f1deef5541f99d8427582c5aad15c623007d2c19686b"), looks := false }, kinds := [], alts := [], laidByText := true, laidKinds := [.data, .data, .data], laidTests := true, laidLooks := .later }
def WriteNamesCardSaid : Prop := Claim7.holds Tryd.pinned (.plain (OpenSpec.ofChange writeNamesSpec)) writeNamesCard

/-- THE TIED CARD OF 'coneylaw06.WriteAtoms'. -/
def writeAtomsCard : Claim7 := { stood := { row := writeAtomsRow, standIns := [], harness := (true, "062c922870e1a75cef95f1deef5541f99d8427582c5aad15c623007d2c19686b"), looks := false }, kinds := [], alts := [], laidByText := true, laidKinds := [.data, .data, .data], laidTests := true, laidLooks := .later }
def WriteAtomsCardSaid : Prop := Claim7.holds Tryd.pinned (.plain (OpenSpec.ofChange writeAtomsSpec)) writeAtomsCard

/-- THE TIED CARD OF 'coneylaw06.WriteLists'. -/
def writeListsCard : Claim7 := { stood := { row := writeListsRow, standIns := [], harness := (true, "062c922870e1a75cef95f1deef5541f99d8427582c5aad15c623007d2c19686b"), looks := false }, kinds := [], alts := [], laidByText := true, laidKinds := [.data, .data, .data], laidTests := true, laidLooks := .later }
def WriteListsCardSaid : Prop := Claim7.holds Tryd.pinned (.plain (OpenSpec.ofChange writeListsSpec)) writeListsCard

/-- THE TIED CARD OF 'coneylaw06.WriteTerms'. -/
def writeTermsCard : Claim7 := { stood := { row := writeTermsRow, standIns := [], harness := (true, "062c922870e1a75cef95f1deef5541f99d8427582c5aad15c623007d2c19686b"), looks := false }, kinds := [], alts := [], laidByText := true, laidKinds := [.data, .data, .data], laidTests := true, laidLooks := .later }
def WriteTermsCardSaid : Prop := Claim7.holds Tryd.pinned (.plain (OpenSpec.ofChange writeTermsSpec)) writeTermsCard

/-- THE TIED CARD OF 'coneylaw06.WriteBack'. -/
def writeBackCard : Claim7 := { stood := { row := writeBackRow, standIns := [], harness := (true, "062c922870e1a75cef95f1deef5541f99d8427582c5aad15c623007d2c19686b"), looks := false }, kinds := [], alts := [], laidByText := true, laidKinds := [.data, .data, .data], laidTests := true, laidLooks := .later }
def WriteBackCardSaid : Prop := Claim7.holds Tryd.pinned (.plain (OpenSpec.ofChange writeBackSpec)) writeBackCard

/-- THE SECOND FORM's CARD OF 'coneylaw06.WriteNames'. -/
def writeNamesUptoCard : Claim7 := { stood := { row := writeNamesUptoRow, standIns := [], harness := (true, "062c922870e1a75cef95f1deef5541f99d8427582c5aad15c623007d2c19686b"), looks := false }, kinds := [], alts := [], laidByText := true, laidKinds := [.data, .data, .data], laidTests := true, laidLooks := .later }
def WriteNamesUptoCardSaid : Prop := Claim7.holds Tryd.pinned (.plain (OpenSpec.upto writeNamesSpec)) writeNamesUptoCard

/-- THE SECOND FORM's CARD OF 'coneylaw06.WriteAtoms'. -/
def writeAtomsUptoCard : Claim7 := { stood := { row := writeAtomsUptoRow, standIns := [], harness := (true, "062c922870e1a75cef95f1deef5541f99d8427582c5aad15c623007d2c19686b"), looks := false }, kinds := [], alts := [], laidByText := true, laidKinds := [.data, .data, .data], laidTests := true, laidLooks := .later }
def WriteAtomsUptoCardSaid : Prop := Claim7.holds Tryd.pinned (.plain (OpenSpec.upto writeAtomsSpec)) writeAtomsUptoCard

/-- THE SECOND FORM's CARD OF 'coneylaw06.WriteLists'. -/
def writeListsUptoCard : Claim7 := { stood := { row := writeListsUptoRow, standIns := [], harness := (true, "062c922870e1a75cef95f1deef5541f99d8427582c5aad15c623007d2c19686b"), looks := false }, kinds := [], alts := [], laidByText := true, laidKinds := [.data, .data, .data], laidTests := true, laidLooks := .later }
def WriteListsUptoCardSaid : Prop := Claim7.holds Tryd.pinned (.plain (OpenSpec.upto writeListsSpec)) writeListsUptoCard

/-- THE SECOND FORM's CARD OF 'coneylaw06.WriteTerms'. -/
def writeTermsUptoCard : Claim7 := { stood := { row := writeTermsUptoRow, standIns := [], harness := (true, "062c922870e1a75cef95f1deef5541f99d8427582c5aad15c623007d2c19686b"), looks := false }, kinds := [], alts := [], laidByText := true, laidKinds := [.data, .data, .data], laidTests := true, laidLooks := .later }
def WriteTermsUptoCardSaid : Prop := Claim7.holds Tryd.pinned (.plain (OpenSpec.upto writeTermsSpec)) writeTermsUptoCard

/-- THE SECOND FORM's CARD OF 'coneylaw06.WriteBack'. -/
def writeBackUptoCard : Claim7 := { stood := { row := writeBackUptoRow, standIns := [], harness := (true, "062c922870e1a75cef95f1deef5541f99d8427582c5aad15c623007d2c19686b"), looks := false }, kinds := [], alts := [], laidByText := true, laidKinds := [.data, .data, .data], laidTests := true, laidLooks := .later }
def WriteBackUptoCardSaid : Prop := Claim7.holds Tryd.pinned (.plain (OpenSpec.upto writeBackSpec)) writeBackUptoCard
end Rows
end Go.Proofs.YtiefbdblefliaaaDoor
