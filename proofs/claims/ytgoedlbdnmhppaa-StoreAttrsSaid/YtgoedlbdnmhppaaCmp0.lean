/- Terms that Compare calls the same. -/
import Derived.Test.YtgoedlbdnmhppaaRes0
namespace Go.Proofs.Ytgoedlbdnmhppaa
open Go.RowKit

/-- What Compare calls the same. -/
def eqT : T → T → Prop
  | .mk k n s m a, .mk k' n' s' m' a' => k = k' ∧ (k = 1 ∨ k = 2 → n = n') ∧ (k = 3 → s = s') ∧ (k ≠ 1 → k ≠ 2 → k ≠ 3 → m = m' ∧ s = s' ∧ ∀ i, i < m → eqT (a i) (a' i))
  | _, _ => False
theorem eqT_refl : ∀ {t : T}, t.thin → eqT t t
  | .nil, h => h.elim
  | .mk _ _ _ _ _, h => ⟨rfl, fun _ => rfl, fun _ => rfl, fun _ _ _ => ⟨rfl, rfl, fun i hi => eqT_refl (h.2 i hi)⟩⟩
end Go.Proofs.Ytgoedlbdnmhppaa
