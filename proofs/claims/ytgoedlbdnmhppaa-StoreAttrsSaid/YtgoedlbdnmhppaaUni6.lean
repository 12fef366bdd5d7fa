/- Terms' blocks through a call that leaves them alone. -/
import Derived.Test.YtgoedlbdnmhppaaUni3
namespace Go.Proofs.Ytgoedlbdnmhppaa
open Go.RowKit

/-- Terms lie in blocks of terms: what a row of pairs does in its own block leaves them alone. -/
theorem TP.row {w w' : World} {t : T} {v : Value} (ht : TP w (fun _ => True) t v) (hk : ∀ (b : Nat) (cs : Array Value) (f : Nat × Nat), w.heap[b]? = some (.cells cs 40 f) → w'.heap[b]? = w.heap[b]?) : TP w' (fun _ => True) t v :=
  ht.keep fun b cs f _ hh => ⟨(hk b cs f hh).trans hh, trivial⟩
end Go.Proofs.Ytgoedlbdnmhppaa
