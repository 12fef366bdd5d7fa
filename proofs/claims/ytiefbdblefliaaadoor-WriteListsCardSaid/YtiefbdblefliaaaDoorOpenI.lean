/- A row of integers that a law is given, opened. -/
import Derived.Test.YtiefbdblefliaaaDoorCwWLists
namespace Go.Proofs.YtiefbdblefliaaaDoor
open Go.RowKit

set_option maxRecDepth 100000 in
theorem open_iin {H : Type} {enc : TypeId × Value → H} {w : World} {base : Nat} {spare : Nat → Bool} {held : Bool} {fuel : Nat} {A : Option Addr} {len cap : Nat} {x : DataW H × List MemPlace}
    (h : DataW.trod enc Tryd.prog w base spare held fuel 40 [.slice A len cap] = some x) :
    ∃ l : List Int, IIn w w.heap.size l (.slice A len cap) ∧ (∀ x ∈ l, I64 x) ∧ (l.length : Int) ≤ 9223372036854775807 := by
  rcases Go.ChangeShapes.open_ints Tryd.underlying40 Tryd.underlying3 (by kernel_rfl) h with ⟨hcs, _⟩ | ⟨a, ln, c, zs, hcs, _, hl, hm, hz, _, hcell, hwf⟩
  · simp at hcs
    obtain ⟨rfl, rfl, rfl⟩ := hcs
    exact ⟨[], ⟨none, 0, rfl, fun h => absurd h (by simp)⟩, fun _ h => (by cases h), by simp⟩
  · simp at hcs
    obtain ⟨rfl, rfl, rfl⟩ := hcs
    have hle : len ≤ zs.length := by rw [hz]; split <;> omega
    have hlen : (zs.take len).length = len := by simp [hle]
    have hmx : (maxLen : Int) ≤ 9223372036854775807 := by decide
    refine ⟨zs.take len, ⟨some a, cap, by rw [hlen], fun h0 => ?_⟩, fun x hx => ?_, by rw [hlen]; omega⟩
    · rw [hlen] at h0
      obtain ⟨b, off, spot⟩ := a
      have z0 := hcell 0 (by omega)
      have hspot : spot = none := by simpa [Addr.add] using World.cell?_spot z0
      subst hspot
      have hlt : b < w.heap.size := by
        rw [Go.WideShapes.add_plain] at z0
        rcases Nat.lt_or_ge b w.heap.size with hlt | hge
        · exact hlt
        · simp [World.cell?, Array.getElem?_eq_none hge] at z0
      refine ⟨b, off, rfl, hlt, fun i x hi => ?_⟩
      have hi' : i < len := by rw [← hlen]; exact (List.getElem?_eq_some_iff.1 hi).1
      have z := hcell i (by omega)
      rw [Go.WideShapes.add_plain] at z
      rw [List.getElem?_take_of_lt hi'] at hi
      rw [z, List.getD_eq_getElem?_getD, hi]
      rfl
    · have b := bounds_i64 (hwf x (List.mem_of_mem_take hx))
      exact ⟨by omega, by omega⟩
end Go.Proofs.YtiefbdblefliaaaDoor
