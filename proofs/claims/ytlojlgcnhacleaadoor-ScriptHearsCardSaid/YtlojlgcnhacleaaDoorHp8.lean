/- coneyref21.Tell: its contract. -/
import Derived.Test.YtlojlgcnhacleaaDoorHp7
namespace Go.Proofs.YtlojlgcnhacleaaDoor
open Go.RowKit Go.Shelf

/-- The outcomes' cells. -/
def outV (os : List (Nat × List UInt8)) : List Value := os.flatMap fun o => [.int .i64 (o.1 : Int), .string (ba o.2)]
theorem out_at : ∀ (os : List (Nat × List UInt8)) (j : Nat) (h : j < os.length), (outV os)[j * 2]? = some (.int .i64 (os[j].1 : Int)) ∧ (outV os)[j * 2 + 1]? = some (.string (ba os[j].2))
  | [], j, h => absurd h (by simp)
  | o :: os, 0, _ => ⟨rfl, rfl⟩
  | o :: os, j + 1, h => by
    have := out_at os j (by simpa using h)
    have e : outV (o :: os) = .int .i64 (o.1 : Int) :: .string (ba o.2) :: outV os := rfl
    rw [e, show (j + 1) * 2 = j * 2 + 1 + 1 by omega]
    simpa using this
/-- A row of outcomes, its cells as they are read. -/
structure OutR (w : World) (A : Option Addr) (os : List (Nat × List UInt8)) : Prop where
  at' : ∀ j (h : j < os.length), ∃ g, A = some ⟨g, 0, none⟩ ∧ w.cell? ⟨g, j * 2, none⟩ = some (.int .i64 (os[j].1 : Int)) ∧ w.cell? ⟨g, j * 2 + 1, none⟩ = some (.string (ba os[j].2))
theorem OutR.of_own {w : World} {B n c : Nat} {e : TypeId} {A : Option Addr} {os : List (Nat × List UInt8)} (h : w.ownsRow B e 2 (.slice A n c) n (outV os)) (hn : n = os.length) : OutR w A os := by
  obtain ⟨A', c', e, _, _, _, hx⟩ := own_open h
  injection e with e1 e2 e3
  subst e1
  refine ⟨fun j hj => ?_⟩
  obtain ⟨g, cur, rfl, _, hh, hcell⟩ := hx (by omega)
  obtain ⟨h1, h2⟩ := out_at os j hj
  exact ⟨g, rfl, (cell_of_row w g _ _ _ _ hh).trans ((hcell _ (by omega)).trans h1), (cell_of_row w g _ _ _ _ hh).trans ((hcell _ (by omega)).trans h2)⟩
theorem OutR.below {w w' : World} {A : Option Addr} {os : List (Nat × List UInt8)} (h : OutR w A os) (hb : Below w.heap.size w w') : OutR w' A os := ⟨fun j hj => by
  obtain ⟨g, e, h1, h2⟩ := h.at' j hj
  exact ⟨g, e, (hb.cell (p := ⟨g, j * 2, none⟩) (cell_lt h1)).trans h1, (hb.cell (p := ⟨g, j * 2 + 1, none⟩) (cell_lt h2)).trans h2⟩⟩
/-- The reference's words are the program's. -/
theorem name_kind : ∀ k : Nat, 1 ≤ k → k ≤ 8 → (nameI (k : Int)).data.toList ++ (if hasT k then [32] else []) = kindL k := by
  intro k h1 h2
  rcases (show k = 1 ∨ k = 2 ∨ k = 3 ∨ k = 4 ∨ k = 5 ∨ k = 6 ∨ k = 7 ∨ k = 8 by omega) with rfl | rfl | rfl | rfl | rfl | rfl | rfl | rfl <;> decide
end Go.Proofs.YtlojlgcnhacleaaDoor
