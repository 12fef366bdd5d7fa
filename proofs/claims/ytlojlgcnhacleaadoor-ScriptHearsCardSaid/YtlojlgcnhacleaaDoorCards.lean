/-
  DERIVED. GIVEN WITH THE SEED: THE CARDS: each row of YtlojlgcnhacleaaDoorRows.lean that lists a variable, with what it lists TIED to the program's text (the seventh form; the later family's looks); each row that meets fmt, with fmt's text TOLD by the authors' own Lean function (tested against real Go, not proved from fmt's source: count such statements apart). THE CARD IS WHAT COUNTS. Prove the row's statement (the work); the ties are given (YtlojlgcnhacleaaDoorTie.lean); close each card by the builder's one call (the guide's Derived/Test/ToyasCard.lean, 'card_holds'). Laid BY PROGRAM, IN A SANDBOX (cutbox-door.mjs). By AI agents, Wed Nov 11 2026. No macro, syntax, notation, axiom, sorry.
-/
import Derived.Test.YtlojlgcnhacleaaDoorRows
import GoSem.ClaimSeven
namespace Go.Proofs.YtlojlgcnhacleaaDoor
namespace Rows

/-- THE TIED CARD OF 'coneylaw21.ScriptHears'. -/
def scriptHearsCard : Claim7 := { stood := { row := scriptHearsRow, standIns := [], harness := (true, "4050e0553b5e7b17a3564c5c0b741d8f9ab893a1268356cfa5ed867f1daf74c7"), looks := true }, kinds := [], alts := [], laidByText := true, laidKinds := [.data], laidTests := true, laidLooks := .later }
def ScriptHearsCardSaid : Prop := Claim7.holds Tryd.pinned (.plain (OpenSpec.ofChange scriptHearsSpec)) scriptHearsCard

/-- THE SECOND FORM's CARD OF 'coneylaw21.ScriptHears'. -/
def scriptHearsUptoCard : Claim7 := { stood := { row := scriptHearsUptoRow, standIns := [], harness := (true, "4050e0553b5e7b17a3564c5c0b741d8f9ab893a1268356cfa5ed867f1daf74c7"), looks := true }, kinds := [], alts := [], laidByText := true, laidKinds := [.data], laidTests := true, laidLooks := .later }
def ScriptHearsUptoCardSaid : Prop := Claim7.holds Tryd.pinned (.plain (OpenSpec.upto scriptHearsSpec)) scriptHearsUptoCard
end Rows
end Go.Proofs.YtlojlgcnhacleaaDoor
