/-
  No cell of these rows narrows 'for every input' (looked for: loops, veiled, ifaces, maps, wideKeys, modest, calm, conditions, laid).
  DERIVED. THE GIVEN ROWS OF THIS SEAT. 5 by the template 'for every input the law returns true; each argument reads behind the call as it read before'; 0 by the template 'total and deterministic' (their statements: YtgoedlbdnmhppaaTotals.lean).
  GIVEN WITH THE SEED: the statements are not yours to turn. If you find one false, say at which input.
  Laid BY PROGRAM, IN A SANDBOX (cutbox-rows.mjs): the forced cells as the released guide's own fill.sh prints them over the translation 7b1d28beb4e444ba… (all of the seat's roots in one cut). By AI agents, Wed Nov 11 2026. No macro, syntax, notation, axiom, sorry.
-/
import Derived.Test.YtgoedlbdnmhppaaChecked
import GoSem.Claim
import GoSem.ClaimJoined
import GoSem.ClaimMapViews
import Derived.JoinedTies
import Derived.KernelRfl
namespace Go.Proofs.Ytgoedlbdnmhppaa
/- THE CELL 'sum', in the pinned program and in every row, IS THE sha256 OF THE DUMP (.gsa) THAT YtgoedlbdnmhppaaProg.lean LOADS. Nothing in Lean hashes anything: it is a label: what it is worth is what the hold of that sum in a sandbox is worth. -/
noncomputable def Try.pinned : Pinned := { name := "ytgoedlbdnmhppaa", sum := "7b1d28beb4e444bae2e2c94947ef4f853a1ed63284734508dbf1231353a9b2af", checked := Try.checked }
namespace Rows
def none {H : Type} : Left H := { results := [], args := [] }

/-- 'coneylaw09.StoreFresh': WHATEVER THE INPUT: true; the input reads as it did. -/
def storeFreshSpec : ChangeSpec := { name := "storeFresh", fn := fun _ => fun
  | [d] => { results := [.lit (.bool true)], args := [d] }
  | _ => none }
def storeFreshRow : OpenClaim := { program := "ytgoedlbdnmhppaa", sum := "7b1d28beb4e444bae2e2c94947ef4f853a1ed63284734508dbf1231353a9b2af", func := "coney/coneylaw09.StoreFresh", spec := "storeFresh", recurses := true, apart := false }
def StoreFreshSaid : Prop := storeFreshRow.holds Try.pinned (OpenSpec.ofChange storeFreshSpec)

/-- ITS FALSE NEIGHBOUR: 'it returns false'. Refute it at one input. -/
def storeFreshWrong : ChangeSpec := { name := "storeFresh", fn := fun _ => fun
  | [d] => { results := [.lit (.bool false)], args := [d] }
  | _ => none }
def StoreFreshWrongFalsely : Prop := storeFreshRow.holds Try.pinned (OpenSpec.ofChange storeFreshWrong)

/-- 'coneylaw09.StoreAttrs': WHATEVER THE INPUT: true; the input reads as it did. -/
def storeAttrsSpec : ChangeSpec := { name := "storeAttrs", fn := fun _ => fun
  | [d1, d2] => { results := [.lit (.bool true)], args := [d1, d2] }
  | _ => none }
def storeAttrsRow : OpenClaim := { program := "ytgoedlbdnmhppaa", sum := "7b1d28beb4e444bae2e2c94947ef4f853a1ed63284734508dbf1231353a9b2af", func := "coney/coneylaw09.StoreAttrs", spec := "storeAttrs", recurses := true, apart := false }
def StoreAttrsSaid : Prop := storeAttrsRow.holds Try.pinned (OpenSpec.ofChange storeAttrsSpec)

/-- ITS FALSE NEIGHBOUR: 'it returns false'. Refute it at one input. -/
def storeAttrsWrong : ChangeSpec := { name := "storeAttrs", fn := fun _ => fun
  | [d1, d2] => { results := [.lit (.bool false)], args := [d1, d2] }
  | _ => none }
def StoreAttrsWrongFalsely : Prop := storeAttrsRow.holds Try.pinned (OpenSpec.ofChange storeAttrsWrong)

/-- 'coneylaw09.StoreScript': WHATEVER THE INPUT: true; the input reads as it did. -/
def storeScriptSpec : ChangeSpec := { name := "storeScript", fn := fun _ => fun
  | [d] => { results := [.lit (.bool true)], args := [d] }
  | _ => none }
def storeScriptRow : OpenClaim := { program := "ytgoedlbdnmhppaa", sum := "7b1d28beb4e444bae2e2c94947ef4f853a1ed63284734508dbf1231353a9b2af", func := "coney/coneylaw09.StoreScript", spec := "storeScript", recurses := true, apart := false }
def StoreScriptSaid : Prop := storeScriptRow.holds Try.pinned (OpenSpec.ofChange storeScriptSpec)

/-- ITS FALSE NEIGHBOUR: 'it returns false'. Refute it at one input. -/
def storeScriptWrong : ChangeSpec := { name := "storeScript", fn := fun _ => fun
  | [d] => { results := [.lit (.bool false)], args := [d] }
  | _ => none }
def StoreScriptWrongFalsely : Prop := storeScriptRow.holds Try.pinned (OpenSpec.ofChange storeScriptWrong)

/-- 'coneylaw09.StoreBack': WHATEVER THE INPUT: true; the input reads as it did. -/
def storeBackSpec : ChangeSpec := { name := "storeBack", fn := fun _ => fun
  | [d1, d2] => { results := [.lit (.bool true)], args := [d1, d2] }
  | _ => none }
def storeBackRow : OpenClaim := { program := "ytgoedlbdnmhppaa", sum := "7b1d28beb4e444bae2e2c94947ef4f853a1ed63284734508dbf1231353a9b2af", func := "coney/coneylaw09.StoreBack", spec := "storeBack", recurses := true, apart := false }
def StoreBackSaid : Prop := storeBackRow.holds Try.pinned (OpenSpec.ofChange storeBackSpec)

/-- ITS FALSE NEIGHBOUR: 'it returns false'. Refute it at one input. -/
def storeBackWrong : ChangeSpec := { name := "storeBack", fn := fun _ => fun
  | [d1, d2] => { results := [.lit (.bool false)], args := [d1, d2] }
  | _ => none }
def StoreBackWrongFalsely : Prop := storeBackRow.holds Try.pinned (OpenSpec.ofChange storeBackWrong)

/-- 'coneylaw09.StoreNested': WHATEVER THE INPUT: true; the input reads as it did. -/
def storeNestedSpec : ChangeSpec := { name := "storeNested", fn := fun _ => fun
  | [d1, d2] => { results := [.lit (.bool true)], args := [d1, d2] }
  | _ => none }
def storeNestedRow : OpenClaim := { program := "ytgoedlbdnmhppaa", sum := "7b1d28beb4e444bae2e2c94947ef4f853a1ed63284734508dbf1231353a9b2af", func := "coney/coneylaw09.StoreNested", spec := "storeNested", recurses := true, apart := false }
def StoreNestedSaid : Prop := storeNestedRow.holds Try.pinned (OpenSpec.ofChange storeNestedSpec)

/-- ITS FALSE NEIGHBOUR: 'it returns false'. Refute it at one input. -/
def storeNestedWrong : ChangeSpec := { name := "storeNested", fn := fun _ => fun
  | [d1, d2] => { results := [.lit (.bool false)], args := [d1, d2] }
  | _ => none }
def StoreNestedWrongFalsely : Prop := storeNestedRow.holds Try.pinned (OpenSpec.ofChange storeNestedWrong)

/- THE SECOND FORM. 'bulk': how many values and letters a reading holds, each counted each time it is reached (what is shared counts as often as it is met; a slice's spare places count too). A statement '..UptoSaid' is the law's where the arguments, and the package variables that the reading takes, are together of bulk at most 1048576: NARROWER than '..Said'. Prove '..Said' where nothing that the law and all that it calls make is longer than what came in: it says more and counts as full. Else prove '..UptoSaid'. A law counts once. -/
mutual
def uptoBulk {H : Type} : DataW H → Nat
  | .lit (.string bytes) => bytes.length + 1
  | .lit _ => 1
  | .nil => 1
  | .ptr d => uptoBulk d + 1
  | .slice elems spare => uptoBulkAll elems + uptoBulkAll spare + 1
  | .agg parts => uptoBulkAll parts + 1
  | .iface _ d => uptoBulk d + 1
  | .map entries => uptoBulkEntries entries + 1
  | .held _ => 1
def uptoBulkAll {H : Type} : List (DataW H) → Nat
  | [] => 0
  | d :: r => uptoBulk d + uptoBulkAll r
def uptoBulkEntries {H : Type} : List (Lit × DataW H) → Nat
  | [] => 0
  | x :: r => uptoBulkEntry x + uptoBulkEntries r
def uptoBulkEntry {H : Type} : Lit × DataW H → Nat
  | (.string bytes, d) => bytes.length + uptoBulk d + 1
  | (_, d) => uptoBulk d + 1
 end
def uptoSmall : (H : Type) → List (DataW H) → Bool := fun _ ds => decide (uptoBulkAll ds ≤ 1048576)
def OpenSpec.upto (s : _root_.Go.ChangeSpec) : _root_.Go.OpenSpec := { _root_.Go.OpenSpec.ofChange s with cond := some uptoSmall }

/-- 'coneylaw09.StoreFresh', WHERE WHAT IT READS IS OF BULK AT MOST 1048576: true; the input reads as it did. -/
def storeFreshUptoRow : OpenClaim := { program := "ytgoedlbdnmhppaa", sum := "7b1d28beb4e444bae2e2c94947ef4f853a1ed63284734508dbf1231353a9b2af", func := "coney/coneylaw09.StoreFresh", spec := "storeFresh", recurses := true, apart := false, narrowed := true }
def StoreFreshUptoSaid : Prop := storeFreshUptoRow.holds Try.pinned (OpenSpec.upto storeFreshSpec)

/-- 'coneylaw09.StoreAttrs', WHERE WHAT IT READS IS OF BULK AT MOST 1048576: true; the input reads as it did. -/
def storeAttrsUptoRow : OpenClaim := { program := "ytgoedlbdnmhppaa", sum := "7b1d28beb4e444bae2e2c94947ef4f853a1ed63284734508dbf1231353a9b2af", func := "coney/coneylaw09.StoreAttrs", spec := "storeAttrs", recurses := true, apart := false, narrowed := true }
def StoreAttrsUptoSaid : Prop := storeAttrsUptoRow.holds Try.pinned (OpenSpec.upto storeAttrsSpec)

/-- 'coneylaw09.StoreScript', WHERE WHAT IT READS IS OF BULK AT MOST 1048576: true; the input reads as it did. -/
def storeScriptUptoRow : OpenClaim := { program := "ytgoedlbdnmhppaa", sum := "7b1d28beb4e444bae2e2c94947ef4f853a1ed63284734508dbf1231353a9b2af", func := "coney/coneylaw09.StoreScript", spec := "storeScript", recurses := true, apart := false, narrowed := true }
def StoreScriptUptoSaid : Prop := storeScriptUptoRow.holds Try.pinned (OpenSpec.upto storeScriptSpec)

/-- 'coneylaw09.StoreBack', WHERE WHAT IT READS IS OF BULK AT MOST 1048576: true; the input reads as it did. -/
def storeBackUptoRow : OpenClaim := { program := "ytgoedlbdnmhppaa", sum := "7b1d28beb4e444bae2e2c94947ef4f853a1ed63284734508dbf1231353a9b2af", func := "coney/coneylaw09.StoreBack", spec := "storeBack", recurses := true, apart := false, narrowed := true }
def StoreBackUptoSaid : Prop := storeBackUptoRow.holds Try.pinned (OpenSpec.upto storeBackSpec)

/-- 'coneylaw09.StoreNested', WHERE WHAT IT READS IS OF BULK AT MOST 1048576: true; the input reads as it did. -/
def storeNestedUptoRow : OpenClaim := { program := "ytgoedlbdnmhppaa", sum := "7b1d28beb4e444bae2e2c94947ef4f853a1ed63284734508dbf1231353a9b2af", func := "coney/coneylaw09.StoreNested", spec := "storeNested", recurses := true, apart := false, narrowed := true }
def StoreNestedUptoSaid : Prop := storeNestedUptoRow.holds Try.pinned (OpenSpec.upto storeNestedSpec)

end Rows
end Go.Proofs.Ytgoedlbdnmhppaa
