/-
  No cell of these rows narrows 'for every input' (looked for: loops, veiled, ifaces, maps, wideKeys, modest, calm, conditions, laid).
  DERIVED. THE GIVEN ROWS OF THIS SEAT. 3 by the template 'for every input the law returns true; each argument reads behind the call as it read before'; 0 by the template 'total and deterministic' (their statements: YtlgeepjlnjlgdaaTotals.lean).
  GIVEN WITH THE SEED: the statements are not yours to turn. If you find one false, say at which input.
  Laid BY PROGRAM, IN A SANDBOX (cutbox-rows.mjs): the forced cells as the released guide's own fill.sh prints them over the translation 1d0d406b669d517b… (all of the seat's roots in one cut). By AI agents, Wed Nov 11 2026. No macro, syntax, notation, axiom, sorry.
-/
import Derived.Test.YtlgeepjlnjlgdaaChecked
import GoSem.Claim
import GoSem.ClaimJoined
import GoSem.ClaimMapViews
import Derived.JoinedTies
import Derived.KernelRfl
namespace Go.Proofs.Ytlgeepjlnjlgdaa
/- THE CELL 'sum', in the pinned program and in every row, IS THE sha256 OF THE DUMP (.gsa) THAT YtlgeepjlnjlgdaaProg.lean LOADS. Nothing in Lean hashes anything: it is a label: what it is worth is what the hold of that sum in a sandbox is worth. -/
noncomputable def Try.pinned : Pinned := { name := "ytlgeepjlnjlgdaa", sum := "1d0d406b669d517bf198245c8477ff27ad4c7339be4752106a0d1e4686cf1bde", checked := Try.checked }
namespace Rows
def none {H : Type} : Left H := { results := [], args := [] }

/-- 'coneylaw11.CodeSlots': WHATEVER THE INPUT: true; the input reads as it did. -/
def codeSlotsSpec : ChangeSpec := { name := "codeSlots", fn := fun _ => fun
  | [d] => { results := [.lit (.bool true)], args := [d] }
  | _ => none }
def codeSlotsRow : OpenClaim := { program := "ytlgeepjlnjlgdaa", sum := "1d0d406b669d517bf198245c8477ff27ad4c7339be4752106a0d1e4686cf1bde", func := "coney/coneylaw11.CodeSlots", spec := "codeSlots", recurses := true, apart := false }
def CodeSlotsSaid : Prop := codeSlotsRow.holds Try.pinned (OpenSpec.ofChange codeSlotsSpec)

/-- ITS FALSE NEIGHBOUR: 'it returns false'. Refute it at one input. -/
def codeSlotsWrong : ChangeSpec := { name := "codeSlots", fn := fun _ => fun
  | [d] => { results := [.lit (.bool false)], args := [d] }
  | _ => none }
def CodeSlotsWrongFalsely : Prop := codeSlotsRow.holds Try.pinned (OpenSpec.ofChange codeSlotsWrong)

/-- 'coneylaw11.CodeBack': WHATEVER THE INPUT: true; the input reads as it did. -/
def codeBackSpec : ChangeSpec := { name := "codeBack", fn := fun _ => fun
  | [d] => { results := [.lit (.bool true)], args := [d] }
  | _ => none }
def codeBackRow : OpenClaim := { program := "ytlgeepjlnjlgdaa", sum := "1d0d406b669d517bf198245c8477ff27ad4c7339be4752106a0d1e4686cf1bde", func := "coney/coneylaw11.CodeBack", spec := "codeBack", inPlace := ["internal/bytealg.IndexByteString", "internal/abi.NoEscape"], unfollowed := true, recurses := true, apart := false }
def CodeBackSaid : Prop := codeBackRow.holds Try.pinned (OpenSpec.ofChange codeBackSpec)

/-- ITS FALSE NEIGHBOUR: 'it returns false'. Refute it at one input. -/
def codeBackWrong : ChangeSpec := { name := "codeBack", fn := fun _ => fun
  | [d] => { results := [.lit (.bool false)], args := [d] }
  | _ => none }
def CodeBackWrongFalsely : Prop := codeBackRow.holds Try.pinned (OpenSpec.ofChange codeBackWrong)

/-- 'coneylaw11.CodeSpoilt': WHATEVER THE INPUT: true; the input reads as it did. -/
def codeSpoiltSpec : ChangeSpec := { name := "codeSpoilt", fn := fun _ => fun
  | [d1, d2, d3] => { results := [.lit (.bool true)], args := [d1, d2, d3] }
  | _ => none }
def codeSpoiltRow : OpenClaim := { program := "ytlgeepjlnjlgdaa", sum := "1d0d406b669d517bf198245c8477ff27ad4c7339be4752106a0d1e4686cf1bde", func := "coney/coneylaw11.CodeSpoilt", spec := "codeSpoilt", inPlace := ["internal/bytealg.IndexByteString", "internal/abi.NoEscape"], unfollowed := true, recurses := true, apart := false }
def CodeSpoiltSaid : Prop := codeSpoiltRow.holds Try.pinned (OpenSpec.ofChange codeSpoiltSpec)

/-- ITS FALSE NEIGHBOUR: 'it returns false'. Refute it at one input. -/
def codeSpoiltWrong : ChangeSpec := { name := "codeSpoilt", fn := fun _ => fun
  | [d1, d2, d3] => { results := [.lit (.bool false)], args := [d1, d2, d3] }
  | _ => none }
def CodeSpoiltWrongFalsely : Prop := codeSpoiltRow.holds Try.pinned (OpenSpec.ofChange codeSpoiltWrong)

/- THE SECOND FORM. 'bulk': how many values and letters a reading holds, each counted each time it is reached (what is shared counts as often as it is met; a slice's spare places count too). A statement '..UptoSaid' is the law's where the arguments, and the package variables that the reading takes, are together of bulk at most 1048576: NARROWER than '..Said'. Prove '..Said' where nothing that the law and all that it calls make is longer than what came in: it says more and counts as full. Else prove '..UptoSaid'. A law counts once. -/
mutual
def uptoBulk {H : Type} : DataW H → Nat
  | .lit (.string bytes) => bytes.length + 1
  | .lit _ => 1
  | .nil => 1
  | .ptr d => uptoBulk d + 1
  | .slice elems spare => uptoBulkAll elems + uptoBulkAll spare + 1
  | .agg parts => uptoBulkAll parts + 1
  | .iface _ d => uptoBulk d + 1
  | .map entries => uptoBulkEntries entries + 1
  | .held _ => 1
def uptoBulkAll {H : Type} : List (DataW H) → Nat
  | [] => 0
  | d :: r => uptoBulk d + uptoBulkAll r
def uptoBulkEntries {H : Type} : List (Lit × DataW H) → Nat
  | [] => 0
  | x :: r => uptoBulkEntry x + uptoBulkEntries r
def uptoBulkEntry {H : Type} : Lit × DataW H → Nat
  | (.string bytes, d) => bytes.length + uptoBulk d + 1
  | (_, d) => uptoBulk d + 1
 end
def uptoSmall : (H : Type) → List (DataW H) → Bool := fun _ ds => decide (uptoBulkAll ds ≤ 1048576)
def OpenSpec.upto (s : _root_.Go.ChangeSpec) : _root_.Go.OpenSpec := { _root_.Go.OpenSpec.ofChange s with cond := some uptoSmall }

/-- 'coneylaw11.CodeSlots', WHERE WHAT IT READS IS OF BULK AT MOST 1048576: true; the input reads as it did. -/
def codeSlotsUptoRow : OpenClaim := { program := "ytlgeepjlnjlgdaa", sum := "1d0d406b669d517bf198245c8477ff27ad4c7339be4752106a0d1e4686cf1bde", func := "coney/coneylaw11.CodeSlots", spec := "codeSlots", recurses := true, apart := false, narrowed := true }
def CodeSlotsUptoSaid : Prop := codeSlotsUptoRow.holds Try.pinned (OpenSpec.upto codeSlotsSpec)

/-- 'coneylaw11.CodeBack', WHERE WHAT IT READS IS OF BULK AT MOST 1048576: true; the input reads as it did. -/
def codeBackUptoRow : OpenClaim := { program := "ytlgeepjlnjlgdaa", sum := "1d0d406b669d517bf198245c8477ff27ad4c7339be4752106a0d1e4686cf1bde", func := "coney/coneylaw11.CodeBack", spec := "codeBack", inPlace := ["internal/bytealg.IndexByteString", "internal/abi.NoEscape"], unfollowed := true, recurses := true, apart := false, narrowed := true }
def CodeBackUptoSaid : Prop := codeBackUptoRow.holds Try.pinned (OpenSpec.upto codeBackSpec)

/-- 'coneylaw11.CodeSpoilt', WHERE WHAT IT READS IS OF BULK AT MOST 1048576: true; the input reads as it did. -/
def codeSpoiltUptoRow : OpenClaim := { program := "ytlgeepjlnjlgdaa", sum := "1d0d406b669d517bf198245c8477ff27ad4c7339be4752106a0d1e4686cf1bde", func := "coney/coneylaw11.CodeSpoilt", spec := "codeSpoilt", inPlace := ["internal/bytealg.IndexByteString", "internal/abi.NoEscape"], unfollowed := true, recurses := true, apart := false, narrowed := true }
def CodeSpoiltUptoSaid : Prop := codeSpoiltUptoRow.holds Try.pinned (OpenSpec.upto codeSpoiltSpec)

end Rows
end Go.Proofs.Ytlgeepjlnjlgdaa
