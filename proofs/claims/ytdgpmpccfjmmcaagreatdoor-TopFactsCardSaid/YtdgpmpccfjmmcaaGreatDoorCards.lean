/-
  DERIVED. GIVEN WITH THE SEED: THE CARDS: each row of YtdgpmpccfjmmcaaGreatDoorRows.lean that lists a variable, with what it lists TIED to the program's text (the seventh form; the later family's looks); each row that meets fmt, with fmt's text TOLD by the authors' own Lean function (tested against real Go, not proved from fmt's source: count such statements apart). THE CARD IS WHAT COUNTS. Prove the row's statement (the work); the ties are given (YtdgpmpccfjmmcaaGreatDoorTie.lean); close each card by the builder's one call (the guide's Derived/Test/ToyasCard.lean, 'card_holds'). Laid BY PROGRAM, IN A SANDBOX (cutbox-door.mjs). By AI agents, Wed Nov 11 2026. No macro, syntax, notation, axiom, sorry.
-/
import Derived.Test.YtdgpmpccfjmmcaaGreatDoorRows
import GoSem.ClaimSeven
namespace Go.Proofs.YtdgpmpccfjmmcaaGreatDoor
namespace Rows

/-- THE TIED CARD OF 'coneytop.TopFacts'. -/
def topFactsCard : Claim7 := { stood := { row := topFactsRow, standIns := [], harness := (true, "c12db08d42831a0a84246b0db48dcf1931cc32969ba0f902772e5c48d64b0005"), looks := true }, kinds := [], alts := [], laidByText := true, laidKinds := [.data, .data, .data, .data, .data, .sentinel, .sentinel, .data, .pinned], laidTests := true, laidLooks := .later }
def TopFactsCardSaid : Prop := Claim7.holds Tryz.pinned (.plain (OpenSpec.ofChange topFactsSpec)) topFactsCard

/-- THE SECOND FORM's CARD OF 'coneytop.TopFacts'. -/
def topFactsUptoCard : Claim7 := { stood := { row := topFactsUptoRow, standIns := [], harness := (true, "c12db08d42831a0a84246b0db48dcf1931cc32969ba0f902772e5c48d64b0005"), looks := true }, kinds := [], alts := [], laidByText := true, laidKinds := [.data, .data, .data, .data, .data, .sentinel, .sentinel, .data, .pinned], laidTests := true, laidLooks := .later }
def TopFactsUptoCardSaid : Prop := Claim7.holds Tryz.pinned (.plain (OpenSpec.upto topFactsSpec)) topFactsUptoCard
end Rows
end Go.Proofs.YtdgpmpccfjmmcaaGreatDoor
