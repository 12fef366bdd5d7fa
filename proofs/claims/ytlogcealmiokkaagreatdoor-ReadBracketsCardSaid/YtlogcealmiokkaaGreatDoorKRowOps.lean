/- Rows of structs of one's own: append(s, make([]T, k)...), s[:k], clear(s[k:]), s[i] = x. -/
import Derived.Test.YtlogcealmiokkaaGreatDoorKGa
import Derived.Lib.AppendZerosOnto
import Derived.Laws.IdiomCopy
namespace Go.Proofs.YtlogcealmiokkaaGreatDoor
open Go.RowKit
section
variable {P : Program}
theorem ownsRow_take {w : World} {base : Nat} {e : TypeId} {size : Nat} {A : Option Addr} {n c : Nat} {xs : List Value} (h : w.ownsRow base e size (.slice A n c) n xs) {k : Nat} (hk : k ≤ n) : w.ownsRow base e size (.slice A k c) k (xs.take (k * size)) := by
 obtain ⟨h0, h⟩ := h
 have hks : k * size ≤ n * size := Nat.mul_le_mul_right _ hk
 refine ⟨by rw [List.length_take, h0]; omega, ?_⟩
 rcases h with ⟨hv, hn⟩ | ⟨g, cap, cur, hv, hg, hh, hn, hm, hs, ht⟩
 ·injection hv with e1 e2 e3
  subst e1; subst e3
  exact .inl ⟨by rw [show k = 0 by omega], by omega⟩
 ·injection hv with e1 e2 e3
  subst e1; subst e3
  exact .inr ⟨g, c, cur, rfl, hg, hh, by omega, hm, hs, by rw [← ht, List.take_take, Nat.min_eq_left hks]⟩
end
end Go.Proofs.YtlogcealmiokkaaGreatDoor
