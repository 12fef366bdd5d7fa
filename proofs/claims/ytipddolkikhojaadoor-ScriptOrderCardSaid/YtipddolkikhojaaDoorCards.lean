/-
  DERIVED. GIVEN WITH THE SEED: THE CARDS: each row of YtipddolkikhojaaDoorRows.lean that lists a variable, with what it lists TIED to the program's text (the seventh form; the later family's looks); each row that meets fmt, with fmt's text TOLD by the authors' own Lean function (tested against real Go, not proved from fmt's source: count such statements apart). THE CARD IS WHAT COUNTS. Prove the row's statement (the work); the ties are given (YtipddolkikhojaaDoorTie.lean); close each card by the builder's one call (the guide's Derived/Test/ToyasCard.lean, 'card_holds'). Laid BY PROGRAM, IN A SANDBOX (cutbox-door.mjs). By AI agents, Wed Nov 11 2026. No macro, syntax, notation, axiom, sorry.
-/
import Derived.Test.YtipddolkikhojaaDoorRows
import GoSem.ClaimSeven
namespace Go.Proofs.YtipddolkikhojaaDoor
namespace Rows

/-- THE TIED CARD OF 'coneylaw21.ScriptHears'. -/
def scriptHearsCard : Claim7 := { stood := { row := scriptHearsRow, standIns := [], harness := (true, "3669a52aea09717cb81ea0412b323e8ad0fc5bc887d55ca89e49212bd960a46c"), looks := true }, kinds := [], alts := [], laidByText := true, laidKinds := [.data], laidTests := true, laidLooks := .later }
def ScriptHearsCardSaid : Prop := Claim7.holds Tryd.pinned (.plain (OpenSpec.ofChange scriptHearsSpec)) scriptHearsCard

/-- THE TIED CARD OF 'coneylaw21.ScriptOrder'. -/
def scriptOrderCard : Claim7 := { stood := { row := scriptOrderRow, standIns := [], harness := (true, "3669a52aea09717cb81ea0412b323e8ad0fc5bc887d55ca89e49212bd960a46c"), looks := true }, kinds := [], alts := [], laidByText := true, laidKinds := [.data, .data, .data, .sentinel, .sentinel, .data], laidTests := true, laidLooks := .later }
def ScriptOrderCardSaid : Prop := Claim7.holds Tryd.pinned (.plain (OpenSpec.ofChange scriptOrderSpec)) scriptOrderCard

/-- THE TIED CARD OF 'coneylaw21.ScriptParses'. -/
def scriptParsesCard : Claim7 := { stood := { row := scriptParsesRow, standIns := [], harness := (true, "3669a52aea09717cb81ea0412b323e8ad0fc5bc887d55ca89e49212bd960a46c"), looks := true }, kinds := [], alts := [], laidByText := true, laidKinds := [.data, .data, .data, .sentinel, .sentinel, .data], laidTests := true, laidLooks := .later }
def ScriptParsesCardSaid : Prop := Claim7.holds Tryd.pinned (.plain (OpenSpec.ofChange scriptParsesSpec)) scriptParsesCard

/-- THE TIED CARD OF 'coneylaw21.ScriptPrints'. -/
def scriptPrintsCard : Claim7 := { stood := { row := scriptPrintsRow, standIns := [], harness := (true, "3669a52aea09717cb81ea0412b323e8ad0fc5bc887d55ca89e49212bd960a46c"), looks := true }, kinds := [], alts := [], laidByText := true, laidKinds := [.data, .data, .data, .sentinel, .sentinel, .data], laidTests := true, laidLooks := .later }
def ScriptPrintsCardSaid : Prop := Claim7.holds Tryd.pinned (.plain (OpenSpec.ofChange scriptPrintsSpec)) scriptPrintsCard

/-- THE TIED CARD OF 'coneylaw21.ScriptLimits'. -/
def scriptLimitsCard : Claim7 := { stood := { row := scriptLimitsRow, standIns := [], harness := (true, "3669a52aea09717cb81ea0412b323e8ad0fc5bc887d55ca89e49212bd960a46c"), looks := true }, kinds := [], alts := [], laidByText := true, laidKinds := [.data, .data, .data, .sentinel, .sentinel, .data], laidTests := true, laidLooks := .later }
def ScriptLimitsCardSaid : Prop := Claim7.holds Tryd.pinned (.plain (OpenSpec.ofChange scriptLimitsSpec)) scriptLimitsCard

/-- THE SECOND FORM's CARD OF 'coneylaw21.ScriptHears'. -/
def scriptHearsUptoCard : Claim7 := { stood := { row := scriptHearsUptoRow, standIns := [], harness := (true, "3669a52aea09717cb81ea0412b323e8ad0fc5bc887d55ca89e49212bd960a46c"), looks := true }, kinds := [], alts := [], laidByText := true, laidKinds := [.data], laidTests := true, laidLooks := .later }
def ScriptHearsUptoCardSaid : Prop := Claim7.holds Tryd.pinned (.plain (OpenSpec.upto scriptHearsSpec)) scriptHearsUptoCard

/-- THE SECOND FORM's CARD OF 'coneylaw21.ScriptOrder'. -/
def scriptOrderUptoCard : Claim7 := { stood := { row := scriptOrderUptoRow, standIns := [], harness := (true, "3669a52aea09717cb81ea0412b323e8ad0fc5bc887d55ca89e49212bd960a46c"), looks := true }, kinds := [], alts := [], laidByText := true, laidKinds := [.data, .data, .data, .sentinel, .sentinel, .data], laidTests := true, laidLooks := .later }
def ScriptOrderUptoCardSaid : Prop := Claim7.holds Tryd.pinned (.plain (OpenSpec.upto scriptOrderSpec)) scriptOrderUptoCard

/-- THE SECOND FORM's CARD OF 'coneylaw21.ScriptParses'. -/
def scriptParsesUptoCard : Claim7 := { stood := { row := scriptParsesUptoRow, standIns := [], harness := (true, "3669a52aea09717cb81ea0412b323e8ad0fc5bc887d55ca89e49212bd960a46c"), looks := true }, kinds := [], alts := [], laidByText := true, laidKinds := [.data, .data, .data, .sentinel, .sentinel, .data], laidTests := true, laidLooks := .later }
def ScriptParsesUptoCardSaid : Prop := Claim7.holds Tryd.pinned (.plain (OpenSpec.upto scriptParsesSpec)) scriptParsesUptoCard

/-- THE SECOND FORM's CARD OF 'coneylaw21.ScriptPrints'. -/
def scriptPrintsUptoCard : Claim7 := { stood := { row := scriptPrintsUptoRow, standIns := [], harness := (true, "3669a52aea09717cb81ea0412b323e8ad0fc5bc887d55ca89e49212bd960a46c"), looks := true }, kinds := [], alts := [], laidByText := true, laidKinds := [.data, .data, .data, .sentinel, .sentinel, .data], laidTests := true, laidLooks := .later }
def ScriptPrintsUptoCardSaid : Prop := Claim7.holds Tryd.pinned (.plain (OpenSpec.upto scriptPrintsSpec)) scriptPrintsUptoCard

/-- THE SECOND FORM's CARD OF 'coneylaw21.ScriptLimits'. -/
def scriptLimitsUptoCard : Claim7 := { stood := { row := scriptLimitsUptoRow, standIns := [], harness := (true, "3669a52aea09717cb81ea0412b323e8ad0fc5bc887d55ca89e49212bd960a46c"), looks := true }, kinds := [], alts := [], laidByText := true, laidKinds := [.data, .data, .data, .sentinel, .sentinel, .data], laidTests := true, laidLooks := .later }
def ScriptLimitsUptoCardSaid : Prop := Claim7.holds Tryd.pinned (.plain (OpenSpec.upto scriptLimitsSpec)) scriptLimitsUptoCard
end Rows
end Go.Proofs.YtipddolkikhojaaDoor
