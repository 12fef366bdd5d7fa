/-
  No cell of these rows narrows 'for every input' (looked for: loops, veiled, ifaces, maps, wideKeys, modest, calm, conditions, laid).
  DERIVED. THE GIVEN ROWS OF THIS SEAT. 5 by the template 'for every input the law returns true; each argument reads behind the call as it read before'; 0 by the template 'total and deterministic' (their statements: YtifjdfdjojkagaaTotals.lean).
  GIVEN WITH THE SEED: the statements are not yours to turn. If you find one false, say at which input.
  Laid BY PROGRAM, IN A SANDBOX (cutbox-rows.mjs): the forced cells as the released guide's own fill.sh prints them over the translation e7c4a4f09fdac5b9… (all of the seat's roots in one cut). By AI agents, Wed Nov 11 2026. No macro, syntax, notation, axiom, sorry.
-/
import Derived.Test.YtifjdfdjojkagaaChecked
import GoSem.Claim
import GoSem.ClaimJoined
import GoSem.ClaimMapViews
import Derived.JoinedTies
import Derived.KernelRfl
namespace Go.Proofs.Ytifjdfdjojkagaa
/- THE CELL 'sum', in the pinned program and in every row, IS THE sha256 OF THE DUMP (.gsa) THAT YtifjdfdjojkagaaProg.lean LOADS. Nothing in Lean hashes anything: it is a label: what it is worth is what the hold of that sum in a sandbox is worth. -/
noncomputable def Try.pinned : Pinned := { name := "ytifjdfdjojkagaa", sum := "e7c4a4f09fdac5b9cca0533fc64e920a087756a6650019686bbcbe7d1f40c9c6", checked := Try.checked }
namespace Rows
def none {H : Type} : Left H := { results := [], args := [] }

/-- 'coneylaw13.EvalHolds': WHATEVER THE INPUT: true; the input reads as it did. -/
def evalHoldsSpec : ChangeSpec := { name := "evalHolds", fn := fun _ => fun
  | [d1, d2, d3] => { results := [.lit (.bool true)], args := [d1, d2, d3] }
  | _ => none }
def evalHoldsRow : OpenClaim := { program := "ytifjdfdjojkagaa", sum := "e7c4a4f09fdac5b9cca0533fc64e920a087756a6650019686bbcbe7d1f40c9c6", func := "coney/coneylaw13.EvalHolds", spec := "evalHolds", apart := false }
def EvalHoldsSaid : Prop := evalHoldsRow.holds Try.pinned (OpenSpec.ofChange evalHoldsSpec)

/-- ITS FALSE NEIGHBOUR: 'it returns false'. Refute it at one input. -/
def evalHoldsWrong : ChangeSpec := { name := "evalHolds", fn := fun _ => fun
  | [d1, d2, d3] => { results := [.lit (.bool false)], args := [d1, d2, d3] }
  | _ => none }
def EvalHoldsWrongFalsely : Prop := evalHoldsRow.holds Try.pinned (OpenSpec.ofChange evalHoldsWrong)

/-- 'coneylaw13.EvalSums': WHATEVER THE INPUT: true; the input reads as it did. -/
def evalSumsSpec : ChangeSpec := { name := "evalSums", fn := fun _ => fun
  | [d1, d2] => { results := [.lit (.bool true)], args := [d1, d2] }
  | _ => none }
def evalSumsRow : OpenClaim := { program := "ytifjdfdjojkagaa", sum := "e7c4a4f09fdac5b9cca0533fc64e920a087756a6650019686bbcbe7d1f40c9c6", func := "coney/coneylaw13.EvalSums", spec := "evalSums", unfollowed := true, recurses := true, apart := false }
def EvalSumsSaid : Prop := evalSumsRow.holds Try.pinned (OpenSpec.ofChange evalSumsSpec)

/-- ITS FALSE NEIGHBOUR: 'it returns false'. Refute it at one input. -/
def evalSumsWrong : ChangeSpec := { name := "evalSums", fn := fun _ => fun
  | [d1, d2] => { results := [.lit (.bool false)], args := [d1, d2] }
  | _ => none }
def EvalSumsWrongFalsely : Prop := evalSumsRow.holds Try.pinned (OpenSpec.ofChange evalSumsWrong)

/-- 'coneylaw13.EvalTerms': WHATEVER THE INPUT: true; the input reads as it did. -/
def evalTermsSpec : ChangeSpec := { name := "evalTerms", fn := fun _ => fun
  | [d] => { results := [.lit (.bool true)], args := [d] }
  | _ => none }
def evalTermsRow : OpenClaim := { program := "ytifjdfdjojkagaa", sum := "e7c4a4f09fdac5b9cca0533fc64e920a087756a6650019686bbcbe7d1f40c9c6", func := "coney/coneylaw13.EvalTerms", spec := "evalTerms", unfollowed := true, recurses := true, apart := false }
def EvalTermsSaid : Prop := evalTermsRow.holds Try.pinned (OpenSpec.ofChange evalTermsSpec)

/-- ITS FALSE NEIGHBOUR: 'it returns false'. Refute it at one input. -/
def evalTermsWrong : ChangeSpec := { name := "evalTerms", fn := fun _ => fun
  | [d] => { results := [.lit (.bool false)], args := [d] }
  | _ => none }
def EvalTermsWrongFalsely : Prop := evalTermsRow.holds Try.pinned (OpenSpec.ofChange evalTermsWrong)

/-- 'coneylaw13.EvalNumbers': WHATEVER THE INPUT: true; the input reads as it did. -/
def evalNumbersSpec : ChangeSpec := { name := "evalNumbers", fn := fun _ => fun
  | [d1, d2, d3] => { results := [.lit (.bool true)], args := [d1, d2, d3] }
  | _ => none }
def evalNumbersRow : OpenClaim := { program := "ytifjdfdjojkagaa", sum := "e7c4a4f09fdac5b9cca0533fc64e920a087756a6650019686bbcbe7d1f40c9c6", func := "coney/coneylaw13.EvalNumbers", spec := "evalNumbers", unfollowed := true, recurses := true, apart := false }
def EvalNumbersSaid : Prop := evalNumbersRow.holds Try.pinned (OpenSpec.ofChange evalNumbersSpec)

/-- ITS FALSE NEIGHBOUR: 'it returns false'. Refute it at one input. -/
def evalNumbersWrong : ChangeSpec := { name := "evalNumbers", fn := fun _ => fun
  | [d1, d2, d3] => { results := [.lit (.bool false)], args := [d1, d2, d3] }
  | _ => none }
def EvalNumbersWrongFalsely : Prop := evalNumbersRow.holds Try.pinned (OpenSpec.ofChange evalNumbersWrong)

/-- 'coneylaw13.EvalPlaces': WHATEVER THE INPUT: true; the input reads as it did. -/
def evalPlacesSpec : ChangeSpec := { name := "evalPlaces", fn := fun _ => fun
  | [d1, d2] => { results := [.lit (.bool true)], args := [d1, d2] }
  | _ => none }
def evalPlacesRow : OpenClaim := { program := "ytifjdfdjojkagaa", sum := "e7c4a4f09fdac5b9cca0533fc64e920a087756a6650019686bbcbe7d1f40c9c6", func := "coney/coneylaw13.EvalPlaces", spec := "evalPlaces", unfollowed := true, recurses := true, apart := false }
def EvalPlacesSaid : Prop := evalPlacesRow.holds Try.pinned (OpenSpec.ofChange evalPlacesSpec)

/-- ITS FALSE NEIGHBOUR: 'it returns false'. Refute it at one input. -/
def evalPlacesWrong : ChangeSpec := { name := "evalPlaces", fn := fun _ => fun
  | [d1, d2] => { results := [.lit (.bool false)], args := [d1, d2] }
  | _ => none }
def EvalPlacesWrongFalsely : Prop := evalPlacesRow.holds Try.pinned (OpenSpec.ofChange evalPlacesWrong)

/- THE SECOND FORM. 'bulk': how many values and letters a reading holds, each counted each time it is reached (what is shared counts as often as it is met; a slice's spare places count too). A statement '..UptoSaid' is the law's where the arguments, and the package variables that the reading takes, are together of bulk at most 1048576: NARROWER than '..Said'. Prove '..Said' where nothing that the law and all that it calls make is longer than what came in: it says more and counts as full. Else prove '..UptoSaid'. A law counts once. -/
mutual
def uptoBulk {H : Type} : DataW H → Nat
  | .lit (.string bytes) => bytes.length + 1
  | .lit _ => 1
  | .nil => 1
  | .ptr d => uptoBulk d + 1
  | .slice elems spare => uptoBulkAll elems + uptoBulkAll spare + 1
  | .agg parts => uptoBulkAll parts + 1
  | .iface _ d => uptoBulk d + 1
  | .map entries => uptoBulkEntries entries + 1
  | .held _ => 1
def uptoBulkAll {H : Type} : List (DataW H) → Nat
  | [] => 0
  | d :: r => uptoBulk d + uptoBulkAll r
def uptoBulkEntries {H : Type} : List (Lit × DataW H) → Nat
  | [] => 0
  | x :: r => uptoBulkEntry x + uptoBulkEntries r
def uptoBulkEntry {H : Type} : Lit × DataW H → Nat
  | (.string bytes, d) => bytes.length + uptoBulk d + 1
  | (_, d) => uptoBulk d + 1
 end
def uptoSmall : (H : Type) → List (DataW H) → Bool := fun _ ds => decide (uptoBulkAll ds ≤ 1048576)
def OpenSpec.upto (s : _root_.Go.ChangeSpec) : _root_.Go.OpenSpec := { _root_.Go.OpenSpec.ofChange s with cond := some uptoSmall }

/-- 'coneylaw13.EvalHolds', WHERE WHAT IT READS IS OF BULK AT MOST 1048576: true; the input reads as it did. -/
def evalHoldsUptoRow : OpenClaim := { program := "ytifjdfdjojkagaa", sum := "e7c4a4f09fdac5b9cca0533fc64e920a087756a6650019686bbcbe7d1f40c9c6", func := "coney/coneylaw13.EvalHolds", spec := "evalHolds", apart := false, narrowed := true }
def EvalHoldsUptoSaid : Prop := evalHoldsUptoRow.holds Try.pinned (OpenSpec.upto evalHoldsSpec)

/-- 'coneylaw13.EvalSums', WHERE WHAT IT READS IS OF BULK AT MOST 1048576: true; the input reads as it did. -/
def evalSumsUptoRow : OpenClaim := { program := "ytifjdfdjojkagaa", sum := "e7c4a4f09fdac5b9cca0533fc64e920a087756a6650019686bbcbe7d1f40c9c6", func := "coney/coneylaw13.EvalSums", spec := "evalSums", unfollowed := true, recurses := true, apart := false, narrowed := true }
def EvalSumsUptoSaid : Prop := evalSumsUptoRow.holds Try.pinned (OpenSpec.upto evalSumsSpec)

/-- 'coneylaw13.EvalTerms', WHERE WHAT IT READS IS OF BULK AT MOST 1048576: true; the input reads as it did. -/
def evalTermsUptoRow : OpenClaim := { program := "ytifjdfdjojkagaa", sum := "e7c4a4f09fdac5b9cca0533fc64e920a087756a6650019686bbcbe7d1f40c9c6", func := "coney/coneylaw13.EvalTerms", spec := "evalTerms", unfollowed := true, recurses := true, apart := false, narrowed := true }
def EvalTermsUptoSaid : Prop := evalTermsUptoRow.holds Try.pinned (OpenSpec.upto evalTermsSpec)

/-- 'coneylaw13.EvalNumbers', WHERE WHAT IT READS IS OF BULK AT MOST 1048576: true; the input reads as it did. -/
def evalNumbersUptoRow : OpenClaim := { program := "ytifjdfdjojkagaa", sum := "e7c4a4f09fdac5b9cca0533fc64e920a087756a6650019686bbcbe7d1f40c9c6", func := "coney/coneylaw13.EvalNumbers", spec := "evalNumbers", unfollowed := true, recurses := true, apart := false, narrowed := true }
def EvalNumbersUptoSaid : Prop := evalNumbersUptoRow.holds Try.pinned (OpenSpec.upto evalNumbersSpec)

/-- 'coneylaw13.EvalPlaces', WHERE WHAT IT READS IS OF BULK AT MOST 1048576: true; the input reads as it did. -/
def evalPlacesUptoRow : OpenClaim := { program := "ytifjdfdjojkagaa", sum := "e7c4a4f09fdac5b9cca0533fc64e920a087756a6650019686bbcbe7d1f40c9c6", func := "coney/coneylaw13.EvalPlaces", spec := "evalPlaces", unfollowed := true, recurses := true, apart := false, narrowed := true }
def EvalPlacesUptoSaid : Prop := evalPlacesUptoRow.holds Try.pinned (OpenSpec.upto evalPlacesSpec)

end Rows
end Go.Proofs.Ytifjdfdjojkagaa
