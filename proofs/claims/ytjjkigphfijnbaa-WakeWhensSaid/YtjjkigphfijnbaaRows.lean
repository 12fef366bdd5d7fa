/-
  No cell of these rows narrows 'for every input' (looked for: loops, veiled, ifaces, maps, wideKeys, modest, calm, conditions, laid).
  DERIVED. THE GIVEN ROWS OF THIS SEAT. 7 by the template 'for every input the law returns true; each argument reads behind the call as it read before'; 0 by the template 'total and deterministic' (their statements: YtjjkigphfijnbaaTotals.lean).
  GIVEN WITH THE SEED: the statements are not yours to turn. If you find one false, say at which input.
  Laid BY PROGRAM, IN A SANDBOX (cutbox-rows.mjs): the forced cells as the released guide's own fill.sh prints them over the translation 74e93ec592daa79b… (all of the seat's roots in one cut). By AI agents, Wed Nov 11 2026. No macro, syntax, notation, axiom, sorry.
-/
import Derived.Test.YtjjkigphfijnbaaChecked
import GoSem.Claim
import GoSem.ClaimJoined
import GoSem.ClaimMapViews
import Derived.JoinedTies
import Derived.KernelRfl
namespace Go.Proofs.Ytjjkigphfijnbaa
/- THE CELL 'sum', in the pinned program and in every row, IS THE sha256 OF THE DUMP (.gsa) THAT YtjjkigphfijnbaaProg.lean LOADS. Nothing in Lean hashes anything: it is a label: what it is worth is what the hold of that sum in a sandbox is worth. -/
noncomputable def Try.pinned : Pinned := { name := "ytjjkigphfijnbaa", sum := "74e93ec592daa79bd7639e78bbdc9b4a76afa908aa2db24ed8af96c36d704a56", checked := Try.checked }
namespace Rows
def none {H : Type} : Left H := { results := [], args := [] }

/-- 'coneylaw08.UnifyFails': WHATEVER THE INPUT: true; the input reads as it did. -/
def unifyFailsSpec : ChangeSpec := { name := "unifyFails", fn := fun _ => fun
  | [d] => { results := [.lit (.bool true)], args := [d] }
  | _ => none }
def unifyFailsRow : OpenClaim := { program := "ytjjkigphfijnbaa", sum := "74e93ec592daa79bd7639e78bbdc9b4a76afa908aa2db24ed8af96c36d704a56", func := "coney/coneylaw08.UnifyFails", spec := "unifyFails", unfollowed := true, recurses := true, apart := false }
def UnifyFailsSaid : Prop := unifyFailsRow.holds Try.pinned (OpenSpec.ofChange unifyFailsSpec)

/-- ITS FALSE NEIGHBOUR: 'it returns false'. Refute it at one input. -/
def unifyFailsWrong : ChangeSpec := { name := "unifyFails", fn := fun _ => fun
  | [d] => { results := [.lit (.bool false)], args := [d] }
  | _ => none }
def UnifyFailsWrongFalsely : Prop := unifyFailsRow.holds Try.pinned (OpenSpec.ofChange unifyFailsWrong)

/-- 'coneylaw08.UnifyChain': WHATEVER THE INPUT: true; the input reads as it did. -/
def unifyChainSpec : ChangeSpec := { name := "unifyChain", fn := fun _ => fun
  | [d1, d2] => { results := [.lit (.bool true)], args := [d1, d2] }
  | _ => none }
def unifyChainRow : OpenClaim := { program := "ytjjkigphfijnbaa", sum := "74e93ec592daa79bd7639e78bbdc9b4a76afa908aa2db24ed8af96c36d704a56", func := "coney/coneylaw08.UnifyChain", spec := "unifyChain", unfollowed := true, recurses := true, apart := false }
def UnifyChainSaid : Prop := unifyChainRow.holds Try.pinned (OpenSpec.ofChange unifyChainSpec)

/-- ITS FALSE NEIGHBOUR: 'it returns false'. Refute it at one input. -/
def unifyChainWrong : ChangeSpec := { name := "unifyChain", fn := fun _ => fun
  | [d1, d2] => { results := [.lit (.bool false)], args := [d1, d2] }
  | _ => none }
def UnifyChainWrongFalsely : Prop := unifyChainRow.holds Try.pinned (OpenSpec.ofChange unifyChainWrong)

/-- 'coneylaw08.UnifyNests': WHATEVER THE INPUT: true; the input reads as it did. -/
def unifyNestsSpec : ChangeSpec := { name := "unifyNests", fn := fun _ => fun
  | [d1, d2] => { results := [.lit (.bool true)], args := [d1, d2] }
  | _ => none }
def unifyNestsRow : OpenClaim := { program := "ytjjkigphfijnbaa", sum := "74e93ec592daa79bd7639e78bbdc9b4a76afa908aa2db24ed8af96c36d704a56", func := "coney/coneylaw08.UnifyNests", spec := "unifyNests", unfollowed := true, recurses := true, apart := false }
def UnifyNestsSaid : Prop := unifyNestsRow.holds Try.pinned (OpenSpec.ofChange unifyNestsSpec)

/-- ITS FALSE NEIGHBOUR: 'it returns false'. Refute it at one input. -/
def unifyNestsWrong : ChangeSpec := { name := "unifyNests", fn := fun _ => fun
  | [d1, d2] => { results := [.lit (.bool false)], args := [d1, d2] }
  | _ => none }
def UnifyNestsWrongFalsely : Prop := unifyNestsRow.holds Try.pinned (OpenSpec.ofChange unifyNestsWrong)

/-- 'coneylaw08.UnifyScript': WHATEVER THE INPUT: true; the input reads as it did. -/
def unifyScriptSpec : ChangeSpec := { name := "unifyScript", fn := fun _ => fun
  | [d] => { results := [.lit (.bool true)], args := [d] }
  | _ => none }
def unifyScriptRow : OpenClaim := { program := "ytjjkigphfijnbaa", sum := "74e93ec592daa79bd7639e78bbdc9b4a76afa908aa2db24ed8af96c36d704a56", func := "coney/coneylaw08.UnifyScript", spec := "unifyScript", unfollowed := true, recurses := true, apart := false }
def UnifyScriptSaid : Prop := unifyScriptRow.holds Try.pinned (OpenSpec.ofChange unifyScriptSpec)

/-- ITS FALSE NEIGHBOUR: 'it returns false'. Refute it at one input. -/
def unifyScriptWrong : ChangeSpec := { name := "unifyScript", fn := fun _ => fun
  | [d] => { results := [.lit (.bool false)], args := [d] }
  | _ => none }
def UnifyScriptWrongFalsely : Prop := unifyScriptRow.holds Try.pinned (OpenSpec.ofChange unifyScriptWrong)

/-- 'coneylaw18.WakeBinds': WHATEVER THE INPUT: true; the input reads as it did. -/
def wakeBindsSpec : ChangeSpec := { name := "wakeBinds", fn := fun _ => fun
  | [d] => { results := [.lit (.bool true)], args := [d] }
  | _ => none }
def wakeBindsRow : OpenClaim := { program := "ytjjkigphfijnbaa", sum := "74e93ec592daa79bd7639e78bbdc9b4a76afa908aa2db24ed8af96c36d704a56", func := "coney/coneylaw18.WakeBinds", spec := "wakeBinds", unfollowed := true, recurses := true, apart := false }
def WakeBindsSaid : Prop := wakeBindsRow.holds Try.pinned (OpenSpec.ofChange wakeBindsSpec)

/-- ITS FALSE NEIGHBOUR: 'it returns false'. Refute it at one input. -/
def wakeBindsWrong : ChangeSpec := { name := "wakeBinds", fn := fun _ => fun
  | [d] => { results := [.lit (.bool false)], args := [d] }
  | _ => none }
def WakeBindsWrongFalsely : Prop := wakeBindsRow.holds Try.pinned (OpenSpec.ofChange wakeBindsWrong)

/-- 'coneylaw18.WakeDifs': WHATEVER THE INPUT: true; the input reads as it did. -/
def wakeDifsSpec : ChangeSpec := { name := "wakeDifs", fn := fun _ => fun
  | [d] => { results := [.lit (.bool true)], args := [d] }
  | _ => none }
def wakeDifsRow : OpenClaim := { program := "ytjjkigphfijnbaa", sum := "74e93ec592daa79bd7639e78bbdc9b4a76afa908aa2db24ed8af96c36d704a56", func := "coney/coneylaw18.WakeDifs", spec := "wakeDifs", unfollowed := true, recurses := true, apart := false }
def WakeDifsSaid : Prop := wakeDifsRow.holds Try.pinned (OpenSpec.ofChange wakeDifsSpec)

/-- ITS FALSE NEIGHBOUR: 'it returns false'. Refute it at one input. -/
def wakeDifsWrong : ChangeSpec := { name := "wakeDifs", fn := fun _ => fun
  | [d] => { results := [.lit (.bool false)], args := [d] }
  | _ => none }
def WakeDifsWrongFalsely : Prop := wakeDifsRow.holds Try.pinned (OpenSpec.ofChange wakeDifsWrong)

/-- 'coneylaw18.WakeWhens': WHATEVER THE INPUT: true; the input reads as it did. -/
def wakeWhensSpec : ChangeSpec := { name := "wakeWhens", fn := fun _ => fun
  | [d] => { results := [.lit (.bool true)], args := [d] }
  | _ => none }
def wakeWhensRow : OpenClaim := { program := "ytjjkigphfijnbaa", sum := "74e93ec592daa79bd7639e78bbdc9b4a76afa908aa2db24ed8af96c36d704a56", func := "coney/coneylaw18.WakeWhens", spec := "wakeWhens", unfollowed := true, recurses := true, apart := false }
def WakeWhensSaid : Prop := wakeWhensRow.holds Try.pinned (OpenSpec.ofChange wakeWhensSpec)

/-- ITS FALSE NEIGHBOUR: 'it returns false'. Refute it at one input. -/
def wakeWhensWrong : ChangeSpec := { name := "wakeWhens", fn := fun _ => fun
  | [d] => { results := [.lit (.bool false)], args := [d] }
  | _ => none }
def WakeWhensWrongFalsely : Prop := wakeWhensRow.holds Try.pinned (OpenSpec.ofChange wakeWhensWrong)

/- THE SECOND FORM. 'bulk': how many values and letters a reading holds, each counted each time it is reached (what is shared counts as often as it is met; a slice's spare places count too). A statement '..UptoSaid' is the law's where the arguments, and the package variables that the reading takes, are together of bulk at most 1048576: NARROWER than '..Said'. Prove '..Said' where nothing that the law and all that it calls make is longer than what came in: it says more and counts as full. Else prove '..UptoSaid'. A law counts once. -/
mutual
def uptoBulk {H : Type} : DataW H → Nat
  | .lit (.string bytes) => bytes.length + 1
  | .lit _ => 1
  | .nil => 1
  | .ptr d => uptoBulk d + 1
  | .slice elems spare => uptoBulkAll elems + uptoBulkAll spare + 1
  | .agg parts => uptoBulkAll parts + 1
  | .iface _ d => uptoBulk d + 1
  | .map entries => uptoBulkEntries entries + 1
  | .held _ => 1
def uptoBulkAll {H : Type} : List (DataW H) → Nat
  | [] => 0
  | d :: r => uptoBulk d + uptoBulkAll r
def uptoBulkEntries {H : Type} : List (Lit × DataW H) → Nat
  | [] => 0
  | x :: r => uptoBulkEntry x + uptoBulkEntries r
def uptoBulkEntry {H : Type} : Lit × DataW H → Nat
  | (.string bytes, d) => bytes.length + uptoBulk d + 1
  | (_, d) => uptoBulk d + 1
 end
def uptoSmall : (H : Type) → List (DataW H) → Bool := fun _ ds => decide (uptoBulkAll ds ≤ 1048576)
def OpenSpec.upto (s : _root_.Go.ChangeSpec) : _root_.Go.OpenSpec := { _root_.Go.OpenSpec.ofChange s with cond := some uptoSmall }

/-- 'coneylaw08.UnifyFails', WHERE WHAT IT READS IS OF BULK AT MOST 1048576: true; the input reads as it did. -/
def unifyFailsUptoRow : OpenClaim := { program := "ytjjkigphfijnbaa", sum := "74e93ec592daa79bd7639e78bbdc9b4a76afa908aa2db24ed8af96c36d704a56", func := "coney/coneylaw08.UnifyFails", spec := "unifyFails", unfollowed := true, recurses := true, apart := false, narrowed := true }
def UnifyFailsUptoSaid : Prop := unifyFailsUptoRow.holds Try.pinned (OpenSpec.upto unifyFailsSpec)

/-- 'coneylaw08.UnifyChain', WHERE WHAT IT READS IS OF BULK AT MOST 1048576: true; the input reads as it did. -/
def unifyChainUptoRow : OpenClaim := { program := "ytjjkigphfijnbaa", sum := "74e93ec592daa79bd7639e78bbdc9b4a76afa908aa2db24ed8af96c36d704a56", func := "coney/coneylaw08.UnifyChain", spec := "unifyChain", unfollowed := true, recurses := true, apart := false, narrowed := true }
def UnifyChainUptoSaid : Prop := unifyChainUptoRow.holds Try.pinned (OpenSpec.upto unifyChainSpec)

/-- 'coneylaw08.UnifyNests', WHERE WHAT IT READS IS OF BULK AT MOST 1048576: true; the input reads as it did. -/
def unifyNestsUptoRow : OpenClaim := { program := "ytjjkigphfijnbaa", sum := "74e93ec592daa79bd7639e78bbdc9b4a76afa908aa2db24ed8af96c36d704a56", func := "coney/coneylaw08.UnifyNests", spec := "unifyNests", unfollowed := true, recurses := true, apart := false, narrowed := true }
def UnifyNestsUptoSaid : Prop := unifyNestsUptoRow.holds Try.pinned (OpenSpec.upto unifyNestsSpec)

/-- 'coneylaw08.UnifyScript', WHERE WHAT IT READS IS OF BULK AT MOST 1048576: true; the input reads as it did. -/
def unifyScriptUptoRow : OpenClaim := { program := "ytjjkigphfijnbaa", sum := "74e93ec592daa79bd7639e78bbdc9b4a76afa908aa2db24ed8af96c36d704a56", func := "coney/coneylaw08.UnifyScript", spec := "unifyScript", unfollowed := true, recurses := true, apart := false, narrowed := true }
def UnifyScriptUptoSaid : Prop := unifyScriptUptoRow.holds Try.pinned (OpenSpec.upto unifyScriptSpec)

/-- 'coneylaw18.WakeBinds', WHERE WHAT IT READS IS OF BULK AT MOST 1048576: true; the input reads as it did. -/
def wakeBindsUptoRow : OpenClaim := { program := "ytjjkigphfijnbaa", sum := "74e93ec592daa79bd7639e78bbdc9b4a76afa908aa2db24ed8af96c36d704a56", func := "coney/coneylaw18.WakeBinds", spec := "wakeBinds", unfollowed := true, recurses := true, apart := false, narrowed := true }
def WakeBindsUptoSaid : Prop := wakeBindsUptoRow.holds Try.pinned (OpenSpec.upto wakeBindsSpec)

/-- 'coneylaw18.WakeDifs', WHERE WHAT IT READS IS OF BULK AT MOST 1048576: true; the input reads as it did. -/
def wakeDifsUptoRow : OpenClaim := { program := "ytjjkigphfijnbaa", sum := "74e93ec592daa79bd7639e78bbdc9b4a76afa908aa2db24ed8af96c36d704a56", func := "coney/coneylaw18.WakeDifs", spec := "wakeDifs", unfollowed := true, recurses := true, apart := false, narrowed := true }
def WakeDifsUptoSaid : Prop := wakeDifsUptoRow.holds Try.pinned (OpenSpec.upto wakeDifsSpec)

/-- 'coneylaw18.WakeWhens', WHERE WHAT IT READS IS OF BULK AT MOST 1048576: true; the input reads as it did. -/
def wakeWhensUptoRow : OpenClaim := { program := "ytjjkigphfijnbaa", sum := "74e93ec592daa79bd7639e78bbdc9b4a76afa908aa2db24ed8af96c36d704a56", func := "coney/coneylaw18.WakeWhens", spec := "wakeWhens", unfollowed := true, recurses := true, apart := false, narrowed := true }
def WakeWhensUptoSaid : Prop := wakeWhensUptoRow.holds Try.pinned (OpenSpec.upto wakeWhensSpec)

end Rows
end Go.Proofs.Ytjjkigphfijnbaa
