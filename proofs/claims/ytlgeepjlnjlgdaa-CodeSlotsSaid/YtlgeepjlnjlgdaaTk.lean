/- Tokens, as plain data and as they lie in memory. -/
import Derived.Test.YtlgeepjlnjlgdaaRow
namespace Go.Proofs.Ytlgeepjlnjlgdaa
open Go.RowKit

/-- A token: its kind, text, first byte, the place behind it. -/
structure Tk where
  k : Int
  t : ByteArray
  a : Nat
  b : Nat
def Tk.cells (x : Tk) : List Value := [.int .i64 x.k, .string x.t, .int .i64 (x.a : Int), .int .i64 (x.b : Int)]
def tkCells (l : List Tk) : List Value := l.flatMap Tk.cells
def Tk.ok (n : Nat) (x : Tk) : Prop := 1 ≤ x.k ∧ x.k ≤ 6 ∧ x.t.size ≤ n ∧ x.a < x.b ∧ x.b ≤ n
theorem tkCells_length (l : List Tk) : (tkCells l).length = 4 * l.length := by
  induction l with
  | nil => rfl
  | cons x l ih => simp only [tkCells, List.flatMap_cons, List.length_append, List.length_cons] at ih ⊢; rw [ih]; simp [Tk.cells]; omega
theorem tkCells_at : ∀ (l : List Tk) (i : Nat) (h : i < l.length) (j : Nat), j < 4 → (tkCells l)[4 * i + j]? = (l[i]'h).cells[j]?
  | x :: l, 0, _, j, hj => by
    simp only [tkCells, List.flatMap_cons, Nat.mul_zero, Nat.zero_add, List.getElem_cons_zero]
    exact List.getElem?_append_left (by simpa [Tk.cells] using hj)
  | x :: l, i + 1, h, j, hj => by
    have ih := tkCells_at l i (by simpa using h) j hj
    simp only [tkCells, List.flatMap_cons, List.getElem_cons_succ] at ih ⊢
    rw [List.getElem?_append_right (by simp [Tk.cells]; omega), ← ih]
    congr 1
    simp [Tk.cells]; omega
theorem tkCells_snoc (l : List Tk) (x : Tk) : tkCells l ++ x.cells = tkCells (l ++ [x]) := by simp [tkCells]

theorem blk_set {w : World} {g : Nat} {t : TypeId} {cs : Array Value} {m : Nat × Nat} (h : w.heap[g]? = some (.cells cs t m)) (i : Nat) (u : Value) : (w.setCell ⟨g, i, none⟩ u).heap[g]? = some (.cells (cs.setIfInBounds i u) t m) := by
  simp [World.setCell, Array.getElem?_modify, h]
theorem box4t {w : World} {g : Nat} {t : TypeId} {f : Nat × Nat} {a b c d : Value} (h : w.heap[g]? = some (.cells #[a, b, c, d] t f)) :
    w.cell? ⟨g, 0, none⟩ = some a ∧ w.cell? ⟨g, 1, none⟩ = some b ∧ w.cell? ⟨g, 2, none⟩ = some c ∧ w.cell? ⟨g, 3, none⟩ = some d :=
  ⟨cell_of_row w g 0 _ _ _ h, cell_of_row w g 1 _ _ _ h, cell_of_row w g 2 _ _ _ h, cell_of_row w g 3 _ _ _ h⟩
theorem box_after {B : Nat} {w w' : World} {v : Value} {g : Nat} {t : TypeId} {f : Nat × Nat} {a b c d : Value} (hg : w.grownBy w' v.ownBlock) (h : w.heap[g]? = some (.cells #[a, b, c, d] t f)) (hlt : ∀ k, v.ownBlock = some k → B ≤ k ∧ k < g) :
    w'.cell? ⟨g, 3, none⟩ = some d :=
  (box4t ((hg.block g (heap_lt h) (fun e => by have := (hlt g e.symm).2; omega)).trans h)).2.2.2
theorem one4 (x : Tk) : ∀ u ∈ x.cells, u.oneCell' = true := by
  intro u hu
  simp only [Tk.cells, List.mem_cons, List.not_mem_nil, or_false] at hu
  rcases hu with rfl | rfl | rfl | rfl <;> rfl
/-- A token in a block of its own. -/
theorem cells4 {w : World} (x : Tk) (t : TypeId) (g : Nat) (hg : g = w.heap.size) : ∀ (j : Nat) (u : Value), x.cells[j]? = some u →
    (w.alloc (.cells #[.int .i64 x.k, .string x.t, .int .i64 (x.a : Int), .int .i64 (x.b : Int)] t)).cell? ⟨g, 0 + j, none⟩ = some u := by
  subst hg
  intro j u hu
  rw [Nat.zero_add, cell_of_row _ _ j _ _ _ (heap_alloc_new _ _)]
  simpa [Tk.cells] using hu
end Go.Proofs.Ytlgeepjlnjlgdaa
