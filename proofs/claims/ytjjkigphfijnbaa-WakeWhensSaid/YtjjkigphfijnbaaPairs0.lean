/- Rows of pairs of terms, as the laws read them out of a text. -/
import Derived.Test.YtjjkigphfijnbaaUni8
import Derived.Test.YtjjkigphfijnbaaRu7
import Derived.Test.YtjjkigphfijnbaaRd13
namespace Go.Proofs.Ytjjkigphfijnbaa
open Go.RowKit

theorem Try.info_two : (Try.prog.info? 37).map (fun i => (i.zero, i.size, i.bytes)) = some (some (.agg #[.int .i64 0, .int .i64 0, .string ⟨#[]⟩, .slice none 0 0, .int .i64 0, .int .i64 0, .string ⟨#[]⟩, .slice none 0 0]), 8, 112) := by kernel_rfl
theorem elTwo : El Try.prog 22 37 (.agg #[.int .i64 0, .int .i64 0, .string ⟨#[]⟩, .slice none 0 0, .int .i64 0, .int .i64 0, .string ⟨#[]⟩, .slice none 0 0]) 8 112 := by
  obtain ⟨i0, hi, hz0, hz1, hz2⟩ := info_parts Try.info_two
  exact ⟨Try.underlying22, ⟨i0, hi, hz0, hz1, hz2⟩, rfl, by omega⟩
/-- A row of [2]Term, in a block of its own (base B). -/
def QRow (w : World) (B : Nat) (v : Value) (ps : List (T × T)) : Prop :=
  ∃ xs, w.ownsRow B 37 8 v ps.length xs ∧ ∀ q p, ps[q]? = some p → ∃ k0 k1 k2 A0 m0 c0 j0 j1 j2 B0 n0 d0, PCell w xs q p k0 k1 k2 A0 m0 c0 j0 j1 j2 B0 n0 d0
theorem QRow.below {w w' : World} {B : Nat} {v : Value} {ps : List (T × T)} (h : QRow w B v ps) (hb : Below w.heap.size w w') : QRow w' B v ps := by
  obtain ⟨xs, hx, hp⟩ := h
  refine ⟨xs, own_below hx hb, fun q p hq => ?_⟩
  obtain ⟨_, _, _, _, _, _, _, _, _, _, _, _, hc⟩ := hp q p hq
  exact ⟨_, _, _, _, _, _, _, _, _, _, _, _, hc.keep (fun _ _ => rfl) fun ht => ht.below hb⟩
theorem QRow.push {w w1 w2 : World} {B : Nat} {v v' : Value} {ps : List (T × T)} {p : T × T} {xs : List Value} {k0 k1 : Int} {k2 : ByteArray} {A0 : Option Addr} {m0 c0 : Nat} {j0 j1 : Int} {j2 : ByteArray} {B0 : Option Addr} {n0 d0 : Nat}
    (hx : w.ownsRow B 37 8 v ps.length xs) (hp : ∀ q p, ps[q]? = some p → ∃ k0 k1 k2 A0 m0 c0 j0 j1 j2 B0 n0 d0, PCell w xs q p k0 k1 k2 A0 m0 c0 j0 j1 j2 B0 n0 d0) (hb : Below w.heap.size w w1)
    (ha : TP w1 (fun _ => True) p.1 (.agg #[.int .i64 k0, .int .i64 k1, .string k2, .slice A0 m0 c0])) (hbb : TP w1 (fun _ => True) p.2 (.agg #[.int .i64 j0, .int .i64 j1, .string j2, .slice B0 n0 d0]))
    (hown : w2.ownsRow B 37 8 v' (ps.length + 1) (xs ++ [.int .i64 k0, .int .i64 k1, .string k2, .slice A0 m0 c0, .int .i64 j0, .int .i64 j1, .string j2, .slice B0 n0 d0])) (hg : w1.grownBy w2 v.ownBlock) : QRow w2 B v' (ps ++ [p]) := by
  have h1 := own_below hx hb
  have far : ∀ (b : Nat) (cs : Array Value) (f : Nat × Nat), w1.heap[b]? = some (.cells cs 34 f) → w2.heap[b]? = w1.heap[b]? := fun b cs f hh => (grown_far h1 hg hh fun _ _ => cells_ne (by decide)).trans hh.symm
  have hl : xs.length = 8 * ps.length := by have := own_len hx; omega
  refine ⟨_, by rw [List.length_append]; exact hown, fun q p' hq => ?_⟩
  by_cases hqn : q < ps.length
  · rw [List.getElem?_append_left hqn] at hq
    obtain ⟨_, _, _, _, _, _, _, _, _, _, _, _, hc⟩ := hp q p' hq
    exact ⟨_, _, _, _, _, _, _, _, _, _, _, _, hc.keep (fun j hj => List.getElem?_append_left (by omega)) fun ht => (ht.below hb).row far⟩
  · rw [List.getElem?_append_right (by omega)] at hq
    have hq0 : q = ps.length := by
      rcases Nat.eq_zero_or_pos (q - ps.length) with h | h
      · omega
      · rw [List.getElem?_eq_none (by simp; omega)] at hq; cases hq
    subst hq0
    simp at hq
    subst hq
    have key : ∀ j, (xs ++ [.int .i64 k0, .int .i64 k1, .string k2, .slice A0 m0 c0, .int .i64 j0, .int .i64 j1, .string j2, .slice B0 n0 d0])[8 * ps.length + j]? = [.int .i64 k0, .int .i64 k1, .string k2, .slice A0 m0 c0, .int .i64 j0, .int .i64 j1, .string j2, Value.slice B0 n0 d0][j]? := fun j => by
      rw [List.getElem?_append_right (by omega), hl]
      congr 1
      omega
    exact ⟨k0, k1, k2, A0, m0, c0, j0, j1, j2, B0, n0, d0, by simpa using key 0, by simpa using key 1, by simpa using key 2, by simpa using key 3, by simpa using key 4, by simpa using key 5, by simpa using key 6, by simpa using key 7, ha.row far, hbb.row far⟩
theorem QRow.get {w : World} {B : Nat} {A : Option Addr} {n cap : Nat} {ps : List (T × T)} (h : QRow w B (.slice A n cap) ps) {q : Nat} {p : T × T} (hq : ps[q]? = some p) :
    ∃ (g : Nat) (k0 k1 : Int) (k2 : ByteArray) (A0 : Option Addr) (m0 c0 : Nat) (j0 j1 : Int) (j2 : ByteArray) (B0 : Option Addr) (n0 d0 : Nat), A = some ⟨g, 0, none⟩ ∧ g < w.heap.size ∧ w.cell? ⟨g, q * 8, none⟩ = some (.int .i64 k0) ∧ w.cell? ⟨g, q * 8 + 1, none⟩ = some (.int .i64 k1) ∧ w.cell? ⟨g, q * 8 + 2, none⟩ = some (.string k2) ∧ w.cell? ⟨g, q * 8 + 3, none⟩ = some (.slice A0 m0 c0) ∧
      w.cell? ⟨g, q * 8 + 4, none⟩ = some (.int .i64 j0) ∧ w.cell? ⟨g, q * 8 + 5, none⟩ = some (.int .i64 j1) ∧ w.cell? ⟨g, q * 8 + 6, none⟩ = some (.string j2) ∧ w.cell? ⟨g, q * 8 + 7, none⟩ = some (.slice B0 n0 d0) ∧
      TP w (fun _ => True) p.1 (.agg #[.int .i64 k0, .int .i64 k1, .string k2, .slice A0 m0 c0]) ∧ TP w (fun _ => True) p.2 (.agg #[.int .i64 j0, .int .i64 j1, .string j2, .slice B0 n0 d0]) := by
  obtain ⟨xs, hx, hp⟩ := h
  have hqn : q < ps.length := by
    rcases Nat.lt_or_ge q ps.length with h | h
    · exact h
    · rw [List.getElem?_eq_none h] at hq; cases hq
  obtain ⟨k0, k1, k2, A0, m0, c0, j0, j1, j2, B0, n0, d0, hc⟩ := hp q p hq
  obtain ⟨A', c', e, _, _, _, hcur⟩ := own_open hx
  injection e with e1 e2 e3
  subst e1
  obtain ⟨g, cur, rfl, _, hh, hcur⟩ := hcur (by omega)
  have key : ∀ j, j < 8 → w.cell? ⟨g, q * 8 + j, none⟩ = xs[8 * q + j]? := fun j hj => by
    rw [cell_of_row w g _ _ _ _ hh, hcur _ (by omega), Nat.mul_comm]
  exact ⟨g, k0, k1, k2, A0, m0, c0, j0, j1, j2, B0, n0, d0, rfl, heap_lt hh, (key 0 (by omega)).trans hc.a0, (key 1 (by omega)).trans hc.a1, (key 2 (by omega)).trans hc.a2, (key 3 (by omega)).trans hc.a3, (key 4 (by omega)).trans hc.b0, (key 5 (by omega)).trans hc.b1, (key 6 (by omega)).trans hc.b2, (key 7 (by omega)).trans hc.b3, hc.ta, hc.tb⟩
end Go.Proofs.Ytjjkigphfijnbaa
