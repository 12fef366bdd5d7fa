/-
  No cell of these rows narrows 'for every input' (looked for: loops, veiled, ifaces, maps, wideKeys, modest, calm, conditions, laid).
  DERIVED. THE GIVEN ROWS OF THIS SEAT. 9 by the template 'for every input the law returns true; each argument reads behind the call as it read before'; 0 by the template 'total and deterministic' (their statements: YteacmlddgagocaaTotals.lean).
  GIVEN WITH THE SEED: the statements are not yours to turn. If you find one false, say at which input.
  Laid BY PROGRAM, IN A SANDBOX (cutbox-rows.mjs): the forced cells as the released guide's own fill.sh prints them over the translation fedb747427f57214… (all of the seat's roots in one cut). By AI agents, Wed Nov 11 2026. No macro, syntax, notation, axiom, sorry.
-/
import Derived.Test.YteacmlddgagocaaChecked
import GoSem.Claim
import GoSem.ClaimJoined
import GoSem.ClaimMapViews
import Derived.JoinedTies
import Derived.KernelRfl
namespace Go.Proofs.Yteacmlddgagocaa
/- THE CELL 'sum', in the pinned program and in every row, IS THE sha256 OF THE DUMP (.gsa) THAT YteacmlddgagocaaProg.lean LOADS. Nothing in Lean hashes anything: it is a label: what it is worth is what the hold of that sum in a sandbox is worth. -/
noncomputable def Try.pinned : Pinned := { name := "yteacmlddgagocaa", sum := "fedb747427f5721495243b5e2556a6cab4400515fac1deba4309188742648986", checked := Try.checked }
namespace Rows
def none {H : Type} : Left H := { results := [], args := [] }

/-- 'coneylaw01.NumGcds': WHATEVER THE INPUT: true; the input reads as it did. -/
def numGcdsSpec : ChangeSpec := { name := "numGcds", fn := fun _ => fun
  | [d1, d2] => { results := [.lit (.bool true)], args := [d1, d2] }
  | _ => none }
def numGcdsRow : OpenClaim := { program := "yteacmlddgagocaa", sum := "fedb747427f5721495243b5e2556a6cab4400515fac1deba4309188742648986", func := "coney/coneylaw01.NumGcds", spec := "numGcds", apart := false }
def NumGcdsSaid : Prop := numGcdsRow.holds Try.pinned (OpenSpec.ofChange numGcdsSpec)

/-- ITS FALSE NEIGHBOUR: 'it returns false'. Refute it at one input. -/
def numGcdsWrong : ChangeSpec := { name := "numGcds", fn := fun _ => fun
  | [d1, d2] => { results := [.lit (.bool false)], args := [d1, d2] }
  | _ => none }
def NumGcdsWrongFalsely : Prop := numGcdsRow.holds Try.pinned (OpenSpec.ofChange numGcdsWrong)

/-- 'coneylaw01.NumDivides': WHATEVER THE INPUT: true; the input reads as it did. -/
def numDividesSpec : ChangeSpec := { name := "numDivides", fn := fun _ => fun
  | [d1, d2] => { results := [.lit (.bool true)], args := [d1, d2] }
  | _ => none }
def numDividesRow : OpenClaim := { program := "yteacmlddgagocaa", sum := "fedb747427f5721495243b5e2556a6cab4400515fac1deba4309188742648986", func := "coney/coneylaw01.NumDivides", spec := "numDivides", apart := false }
def NumDividesSaid : Prop := numDividesRow.holds Try.pinned (OpenSpec.ofChange numDividesSpec)

/-- ITS FALSE NEIGHBOUR: 'it returns false'. Refute it at one input. -/
def numDividesWrong : ChangeSpec := { name := "numDivides", fn := fun _ => fun
  | [d1, d2] => { results := [.lit (.bool false)], args := [d1, d2] }
  | _ => none }
def NumDividesWrongFalsely : Prop := numDividesRow.holds Try.pinned (OpenSpec.ofChange numDividesWrong)

/-- 'coneylaw01.NumBack': WHATEVER THE INPUT: true; the input reads as it did. -/
def numBackSpec : ChangeSpec := { name := "numBack", fn := fun _ => fun
  | [d1, d2] => { results := [.lit (.bool true)], args := [d1, d2] }
  | _ => none }
def numBackRow : OpenClaim := { program := "yteacmlddgagocaa", sum := "fedb747427f5721495243b5e2556a6cab4400515fac1deba4309188742648986", func := "coney/coneylaw01.NumBack", spec := "numBack", apart := false }
def NumBackSaid : Prop := numBackRow.holds Try.pinned (OpenSpec.ofChange numBackSpec)

/-- ITS FALSE NEIGHBOUR: 'it returns false'. Refute it at one input. -/
def numBackWrong : ChangeSpec := { name := "numBack", fn := fun _ => fun
  | [d1, d2] => { results := [.lit (.bool false)], args := [d1, d2] }
  | _ => none }
def NumBackWrongFalsely : Prop := numBackRow.holds Try.pinned (OpenSpec.ofChange numBackWrong)

/-- 'coneylaw01.NumSums': WHATEVER THE INPUT: true; the input reads as it did. -/
def numSumsSpec : ChangeSpec := { name := "numSums", fn := fun _ => fun
  | [d1, d2] => { results := [.lit (.bool true)], args := [d1, d2] }
  | _ => none }
def numSumsRow : OpenClaim := { program := "yteacmlddgagocaa", sum := "fedb747427f5721495243b5e2556a6cab4400515fac1deba4309188742648986", func := "coney/coneylaw01.NumSums", spec := "numSums", apart := false }
def NumSumsSaid : Prop := numSumsRow.holds Try.pinned (OpenSpec.ofChange numSumsSpec)

/-- ITS FALSE NEIGHBOUR: 'it returns false'. Refute it at one input. -/
def numSumsWrong : ChangeSpec := { name := "numSums", fn := fun _ => fun
  | [d1, d2] => { results := [.lit (.bool false)], args := [d1, d2] }
  | _ => none }
def NumSumsWrongFalsely : Prop := numSumsRow.holds Try.pinned (OpenSpec.ofChange numSumsWrong)

/-- 'coneylaw01.NumTimes': WHATEVER THE INPUT: true; the input reads as it did. -/
def numTimesSpec : ChangeSpec := { name := "numTimes", fn := fun _ => fun
  | [d1, d2] => { results := [.lit (.bool true)], args := [d1, d2] }
  | _ => none }
def numTimesRow : OpenClaim := { program := "yteacmlddgagocaa", sum := "fedb747427f5721495243b5e2556a6cab4400515fac1deba4309188742648986", func := "coney/coneylaw01.NumTimes", spec := "numTimes", apart := false }
def NumTimesSaid : Prop := numTimesRow.holds Try.pinned (OpenSpec.ofChange numTimesSpec)

/-- ITS FALSE NEIGHBOUR: 'it returns false'. Refute it at one input. -/
def numTimesWrong : ChangeSpec := { name := "numTimes", fn := fun _ => fun
  | [d1, d2] => { results := [.lit (.bool false)], args := [d1, d2] }
  | _ => none }
def NumTimesWrongFalsely : Prop := numTimesRow.holds Try.pinned (OpenSpec.ofChange numTimesWrong)

/-- 'coneylaw01.NumLaws': WHATEVER THE INPUT: true; the input reads as it did. -/
def numLawsSpec : ChangeSpec := { name := "numLaws", fn := fun _ => fun
  | [d1, d2, d3] => { results := [.lit (.bool true)], args := [d1, d2, d3] }
  | _ => none }
def numLawsRow : OpenClaim := { program := "yteacmlddgagocaa", sum := "fedb747427f5721495243b5e2556a6cab4400515fac1deba4309188742648986", func := "coney/coneylaw01.NumLaws", spec := "numLaws", apart := false }
def NumLawsSaid : Prop := numLawsRow.holds Try.pinned (OpenSpec.ofChange numLawsSpec)

/-- ITS FALSE NEIGHBOUR: 'it returns false'. Refute it at one input. -/
def numLawsWrong : ChangeSpec := { name := "numLaws", fn := fun _ => fun
  | [d1, d2, d3] => { results := [.lit (.bool false)], args := [d1, d2, d3] }
  | _ => none }
def NumLawsWrongFalsely : Prop := numLawsRow.holds Try.pinned (OpenSpec.ofChange numLawsWrong)

/-- 'coneylaw01.NumBacks': WHATEVER THE INPUT: true; the input reads as it did. -/
def numBacksSpec : ChangeSpec := { name := "numBacks", fn := fun _ => fun
  | [d1, d2] => { results := [.lit (.bool true)], args := [d1, d2] }
  | _ => none }
def numBacksRow : OpenClaim := { program := "yteacmlddgagocaa", sum := "fedb747427f5721495243b5e2556a6cab4400515fac1deba4309188742648986", func := "coney/coneylaw01.NumBacks", spec := "numBacks", apart := false }
def NumBacksSaid : Prop := numBacksRow.holds Try.pinned (OpenSpec.ofChange numBacksSpec)

/-- ITS FALSE NEIGHBOUR: 'it returns false'. Refute it at one input. -/
def numBacksWrong : ChangeSpec := { name := "numBacks", fn := fun _ => fun
  | [d1, d2] => { results := [.lit (.bool false)], args := [d1, d2] }
  | _ => none }
def NumBacksWrongFalsely : Prop := numBacksRow.holds Try.pinned (OpenSpec.ofChange numBacksWrong)

/-- 'coneylaw01.NumPowerSums': WHATEVER THE INPUT: true; the input reads as it did. -/
def numPowerSumsSpec : ChangeSpec := { name := "numPowerSums", fn := fun _ => fun
  | [d1, d2, d3, d4] => { results := [.lit (.bool true)], args := [d1, d2, d3, d4] }
  | _ => none }
def numPowerSumsRow : OpenClaim := { program := "yteacmlddgagocaa", sum := "fedb747427f5721495243b5e2556a6cab4400515fac1deba4309188742648986", func := "coney/coneylaw01.NumPowerSums", spec := "numPowerSums", apart := false }
def NumPowerSumsSaid : Prop := numPowerSumsRow.holds Try.pinned (OpenSpec.ofChange numPowerSumsSpec)

/-- ITS FALSE NEIGHBOUR: 'it returns false'. Refute it at one input. -/
def numPowerSumsWrong : ChangeSpec := { name := "numPowerSums", fn := fun _ => fun
  | [d1, d2, d3, d4] => { results := [.lit (.bool false)], args := [d1, d2, d3, d4] }
  | _ => none }
def NumPowerSumsWrongFalsely : Prop := numPowerSumsRow.holds Try.pinned (OpenSpec.ofChange numPowerSumsWrong)

/-- 'coneylaw01.NumPowers': WHATEVER THE INPUT: true; the input reads as it did. -/
def numPowersSpec : ChangeSpec := { name := "numPowers", fn := fun _ => fun
  | [d1, d2] => { results := [.lit (.bool true)], args := [d1, d2] }
  | _ => none }
def numPowersRow : OpenClaim := { program := "yteacmlddgagocaa", sum := "fedb747427f5721495243b5e2556a6cab4400515fac1deba4309188742648986", func := "coney/coneylaw01.NumPowers", spec := "numPowers", apart := false }
def NumPowersSaid : Prop := numPowersRow.holds Try.pinned (OpenSpec.ofChange numPowersSpec)

/-- ITS FALSE NEIGHBOUR: 'it returns false'. Refute it at one input. -/
def numPowersWrong : ChangeSpec := { name := "numPowers", fn := fun _ => fun
  | [d1, d2] => { results := [.lit (.bool false)], args := [d1, d2] }
  | _ => none }
def NumPowersWrongFalsely : Prop := numPowersRow.holds Try.pinned (OpenSpec.ofChange numPowersWrong)

/- THE SECOND FORM. 'bulk': how many values and letters a reading holds, each counted each time it is reached (what is shared counts as often as it is met; a slice's spare places count too). A statement '..UptoSaid' is the law's where the arguments, and the package variables that the reading takes, are together of bulk at most 1048576: NARROWER than '..Said'. Prove '..Said' where nothing that the law and all that it calls make is longer than what came in: it says more and counts as full. Else prove '..UptoSaid'. A law counts once. -/
mutual
def uptoBulk {H : Type} : DataW H → Nat
  | .lit (.string bytes) => bytes.length + 1
  | .lit _ => 1
  | .nil => 1
  | .ptr d => uptoBulk d + 1
  | .slice elems spare => uptoBulkAll elems + uptoBulkAll spare + 1
  | .agg parts => uptoBulkAll parts + 1
  | .iface _ d => uptoBulk d + 1
  | .map entries => uptoBulkEntries entries + 1
  | .held _ => 1
def uptoBulkAll {H : Type} : List (DataW H) → Nat
  | [] => 0
  | d :: r => uptoBulk d + uptoBulkAll r
def uptoBulkEntries {H : Type} : List (Lit × DataW H) → Nat
  | [] => 0
  | x :: r => uptoBulkEntry x + uptoBulkEntries r
def uptoBulkEntry {H : Type} : Lit × DataW H → Nat
  | (.string bytes, d) => bytes.length + uptoBulk d + 1
  | (_, d) => uptoBulk d + 1
 end
def uptoSmall : (H : Type) → List (DataW H) → Bool := fun _ ds => decide (uptoBulkAll ds ≤ 1048576)
def OpenSpec.upto (s : _root_.Go.ChangeSpec) : _root_.Go.OpenSpec := { _root_.Go.OpenSpec.ofChange s with cond := some uptoSmall }

/-- 'coneylaw01.NumGcds', WHERE WHAT IT READS IS OF BULK AT MOST 1048576: true; the input reads as it did. -/
def numGcdsUptoRow : OpenClaim := { program := "yteacmlddgagocaa", sum := "fedb747427f5721495243b5e2556a6cab4400515fac1deba4309188742648986", func := "coney/coneylaw01.NumGcds", spec := "numGcds", apart := false, narrowed := true }
def NumGcdsUptoSaid : Prop := numGcdsUptoRow.holds Try.pinned (OpenSpec.upto numGcdsSpec)

/-- 'coneylaw01.NumDivides', WHERE WHAT IT READS IS OF BULK AT MOST 1048576: true; the input reads as it did. -/
def numDividesUptoRow : OpenClaim := { program := "yteacmlddgagocaa", sum := "fedb747427f5721495243b5e2556a6cab4400515fac1deba4309188742648986", func := "coney/coneylaw01.NumDivides", spec := "numDivides", apart := false, narrowed := true }
def NumDividesUptoSaid : Prop := numDividesUptoRow.holds Try.pinned (OpenSpec.upto numDividesSpec)

/-- 'coneylaw01.NumBack', WHERE WHAT IT READS IS OF BULK AT MOST 1048576: true; the input reads as it did. -/
def numBackUptoRow : OpenClaim := { program := "yteacmlddgagocaa", sum := "fedb747427f5721495243b5e2556a6cab4400515fac1deba4309188742648986", func := "coney/coneylaw01.NumBack", spec := "numBack", apart := false, narrowed := true }
def NumBackUptoSaid : Prop := numBackUptoRow.holds Try.pinned (OpenSpec.upto numBackSpec)

/-- 'coneylaw01.NumSums', WHERE WHAT IT READS IS OF BULK AT MOST 1048576: true; the input reads as it did. -/
def numSumsUptoRow : OpenClaim := { program := "yteacmlddgagocaa", sum := "fedb747427f5721495243b5e2556a6cab4400515fac1deba4309188742648986", func := "coney/coneylaw01.NumSums", spec := "numSums", apart := false, narrowed := true }
def NumSumsUptoSaid : Prop := numSumsUptoRow.holds Try.pinned (OpenSpec.upto numSumsSpec)

/-- 'coneylaw01.NumTimes', WHERE WHAT IT READS IS OF BULK AT MOST 1048576: true; the input reads as it did. -/
def numTimesUptoRow : OpenClaim := { program := "yteacmlddgagocaa", sum := "fedb747427f5721495243b5e2556a6cab4400515fac1deba4309188742648986", func := "coney/coneylaw01.NumTimes", spec := "numTimes", apart := false, narrowed := true }
def NumTimesUptoSaid : Prop := numTimesUptoRow.holds Try.pinned (OpenSpec.upto numTimesSpec)

/-- 'coneylaw01.NumLaws', WHERE WHAT IT READS IS OF BULK AT MOST 1048576: true; the input reads as it did. -/
def numLawsUptoRow : OpenClaim := { program := "yteacmlddgagocaa", sum := "fedb747427f5721495243b5e2556a6cab4400515fac1deba4309188742648986", func := "coney/coneylaw01.NumLaws", spec := "numLaws", apart := false, narrowed := true }
def NumLawsUptoSaid : Prop := numLawsUptoRow.holds Try.pinned (OpenSpec.upto numLawsSpec)

/-- 'coneylaw01.NumBacks', WHERE WHAT IT READS IS OF BULK AT MOST 1048576: true; the input reads as it did. -/
def numBacksUptoRow : OpenClaim := { program := "yteacmlddgagocaa", sum := "fedb747427f5721495243b5e2556a6cab4400515fac1deba4309188742648986", func := "coney/coneylaw01.NumBacks", spec := "numBacks", apart := false, narrowed := true }
def NumBacksUptoSaid : Prop := numBacksUptoRow.holds Try.pinned (OpenSpec.upto numBacksSpec)

/-- 'coneylaw01.NumPowerSums', WHERE WHAT IT READS IS OF BULK AT MOST 1048576: true; the input reads as it did. -/
def numPowerSumsUptoRow : OpenClaim := { program := "yteacmlddgagocaa", sum := "fedb747427f5721495243b5e2556a6cab4400515fac1deba4309188742648986", func := "coney/coneylaw01.NumPowerSums", spec := "numPowerSums", apart := false, narrowed := true }
def NumPowerSumsUptoSaid : Prop := numPowerSumsUptoRow.holds Try.pinned (OpenSpec.upto numPowerSumsSpec)

/-- 'coneylaw01.NumPowers', WHERE WHAT IT READS IS OF BULK AT MOST 1048576: true; the input reads as it did. -/
def numPowersUptoRow : OpenClaim := { program := "yteacmlddgagocaa", sum := "fedb747427f5721495243b5e2556a6cab4400515fac1deba4309188742648986", func := "coney/coneylaw01.NumPowers", spec := "numPowers", apart := false, narrowed := true }
def NumPowersUptoSaid : Prop := numPowersUptoRow.holds Try.pinned (OpenSpec.upto numPowersSpec)

end Rows
end Go.Proofs.Yteacmlddgagocaa
