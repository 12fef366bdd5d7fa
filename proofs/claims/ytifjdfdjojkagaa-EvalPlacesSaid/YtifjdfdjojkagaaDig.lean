/- A slice value that reads as a list of digits, in the memory that a walk comes to. -/
import Derived.Test.YtifjdfdjojkagaaDigits
import Derived.Below
import Derived.Laws.OwnMore
import Derived.Deep.AppendLies
import Derived.Deep.Draws
import Derived.Laws.Rows
namespace Go.Proofs.Ytifjdfdjojkagaa
open Go.RowKit Dg

theorem World.lt_of_heap {w : World} {g : Nat} {o : Obj} (h : w.heap[g]? = some o) : g < w.heap.size := by
  rcases Nat.lt_or_ge g w.heap.size with hlt | hge
  · exact hlt
  · rw [Array.getElem?_eq_none hge] at h; cases h

theorem Blk.set_ {w : World} {g : Nat} {t : TypeId} {cs : Array Value} {m : Nat × Nat} (h : w.heap[g]? = some (.cells cs t m)) (i : Nat) (u : Value) : (w.setCell ⟨g, i, none⟩ u).heap[g]? = some (.cells (cs.setIfInBounds i u) t m) := by
  simp [World.setCell, Array.getElem?_modify, h]

/-- The slice value '.slice A n c' reads as the digits l; its cells lie in a block of integers below block B. -/
structure Dig (w : World) (B : Nat) (A : Option Addr) (n c : Nat) (l : List Nat) : Prop where
  len : l.length = n
  cap : n ≤ c
  nil : A = none → c = 0
  ok : Ok l
  blk : 0 < n → ∃ b off cs, A = some ⟨b, off, none⟩ ∧ b < B ∧ w.heap[b]? = some (.cells cs 3 (0, 0)) ∧ ∀ j, j < n → cs[off + j]? = some (.int .i64 ((l.getD j 0 : Nat) : Int))

variable {w w' : World} {B B' : Nat} {A : Option Addr} {n c : Nat} {l : List Nat}

theorem Dig.cells (h : Dig w B A n c l) : 0 < n → ∃ b off, A = some ⟨b, off, none⟩ ∧ b < B ∧ ∀ j, j < n → w.cell? ⟨b, off + j, none⟩ = some (.int .i64 ((l.getD j 0 : Nat) : Int)) := fun hn => by
  obtain ⟨b, off, cs, hA, hb, hh, hc⟩ := h.blk hn
  exact ⟨b, off, hA, hb, fun j hj => (cell_of_row w b (off + j) cs _ _ hh).trans (hc j hj)⟩
theorem Dig.keep (h : Dig w B A n c l) (hk : ∀ b cs, b < B → w.heap[b]? = some (.cells cs 3 (0, 0)) → w'.heap[b]? = w.heap[b]?) : Dig w' B A n c l :=
  ⟨h.len, h.cap, h.nil, h.ok, fun hn => by
    obtain ⟨b, off, cs, hA, hb, hh, hc⟩ := h.blk hn
    exact ⟨b, off, cs, hA, hb, (hk b cs hb hh).trans hh, hc⟩⟩
theorem Dig.more (h : Dig w B A n c l) (hB : B ≤ B') : Dig w B' A n c l :=
  ⟨h.len, h.cap, h.nil, h.ok, fun hn => by
    obtain ⟨b, off, cs, hA, hb, hc⟩ := h.blk hn
    exact ⟨b, off, cs, hA, by omega, hc⟩⟩
theorem Dig.below (h : Dig w B A n c l) (hb : Below B w w') : Dig w' B A n c l := h.keep fun _ _ hp _ => hb.block _ hp
/-- A store into a block of another type. -/
theorem Dig.far (h : Dig w B A n c l) {p : Addr} {cs : Array Value} {t : TypeId} {m : Nat × Nat} (hp : w.heap[p.block]? = some (.cells cs t m)) (ht : ¬ 3 = t) (u : Value) : Dig (w.setCell p u) B A n c l :=
  h.keep fun b cs' _ hb => Below.heap_setCell w p u b (by
    rintro rfl
    rw [hp] at hb
    injection hb with hb
    injection hb with _ h1
    exact ht h1.symm)
theorem Dig.take (h : Dig w B A n c l) {k : Nat} (hk : k ≤ n) : Dig w B A k c (l.take k) :=
  ⟨by have := h.len; simp; omega, by have := h.cap; omega, h.nil, h.ok.take k, fun hn => by
    obtain ⟨b, off, cs, hA, hb, hh, hc⟩ := h.blk (by omega)
    refine ⟨b, off, cs, hA, hb, hh, fun j hj => ?_⟩
    rw [hc j (by omega)]
    simp [List.getD_eq_getElem?_getD, hj]⟩
theorem Dig.lt (h : Dig w B A n c l) (j : Nat) : l.getD j 0 < 32768 := by
  rw [List.getD_eq_getElem?_getD]
  rcases Nat.lt_or_ge j l.length with hj | hj
  · rw [List.getElem?_eq_getElem hj]; exact h.ok _ (List.getElem_mem hj)
  · rw [List.getElem?_eq_none hj]; decide

/-- What the call itself has gathered, as a list of digits. -/
def cellsOf (l : List Nat) : List Value := l.map fun (d : Nat) => Value.int .i64 (d : Int)
theorem cellsOf_snoc (l : List Nat) (d : Nat) : cellsOf (l ++ [d]) = cellsOf l ++ [.int .i64 (d : Int)] := by simp [cellsOf]

theorem Dig.of_own {base : Nat} {v : Value} {m : Nat} (h : w.ownsRow base 3 1 v m (cellsOf l)) (hok : Ok l) :
    ∃ A c, v = .slice A m c ∧ Dig w w.heap.size A m c l := by
  have hl : l.length = m := by have := h.1; simpa [cellsOf] using this
  rcases h.2 with ⟨rfl, h0⟩ | ⟨g, cap, cur, rfl, hg, hh, hnc, hmx, hsz, htk⟩
  · subst h0
    exact ⟨none, 0, rfl, hl, by omega, fun _ => rfl, hok, fun h => absurd h (by omega)⟩
  · refine ⟨_, cap, rfl, hl, hnc, fun h => by (cases h), hok, fun hm => ⟨g, 0, cur, rfl, World.lt_of_heap hh, hh, fun j hj => ?_⟩⟩
    have h1 : (cur.toList.take (m * 1))[j]? = (cellsOf l)[j]? := by rw [htk]
    rw [List.getElem?_take, if_pos (by omega)] at h1
    rw [Nat.zero_add, ← Array.getElem?_toList, h1]
    simp [cellsOf, List.getD_eq_getElem?_getD, List.getElem?_eq_getElem (show j < l.length by omega)]

theorem Dig.of_slice {base : Nat} {A : Option Addr} {c : Nat} {m : Nat} (h : w.ownsRow base 3 1 (.slice A m c) m (cellsOf l)) (hok : Ok l) : Dig w w.heap.size A m c l := by
  obtain ⟨A', c', he, hd⟩ := Dig.of_own h hok
  injection he with h1 _ h3
  subst h1 h3
  exact hd

/-- The slice value reads as the number N: its digits, none of them 0 at the end. -/
def Num (w : World) (B : Nat) (A : Option Addr) (n c : Nat) (N : Nat) : Prop := ∃ l, Dig w B A n c l ∧ Norm l ∧ val l = N
theorem Num.below {N : Nat} (h : Num w B A n c N) (hb : Below B w w') : Num w' B A n c N := let ⟨l, h1, h2, h3⟩ := h; ⟨l, h1.below hb, h2, h3⟩
theorem Num.far {N : Nat} (h : Num w B A n c N) {p : Addr} {cs : Array Value} {t : TypeId} {m : Nat × Nat} (hp : w.heap[p.block]? = some (.cells cs t m)) (ht : ¬ 3 = t) (u : Value) : Num (w.setCell p u) B A n c N :=
  let ⟨l, h1, h2, h3⟩ := h; ⟨l, h1.far hp ht u, h2, h3⟩
theorem Num.more {N : Nat} (h : Num w B A n c N) (hB : B ≤ B') : Num w B' A n c N := let ⟨l, h1, h2, h3⟩ := h; ⟨l, h1.more hB, h2, h3⟩
theorem Num.short {N k : Nat} (h : Num w B A n c N) (hN : N < 32768 ^ k) : n ≤ k := by
  obtain ⟨l, h1, h2, rfl⟩ := h
  have hl := h1.len
  rcases Nat.lt_or_ge k n with hlt | hge
  · exfalso
    have h3 := val_ge h2 (by intro e; subst e; simp at hl; omega)
    have h4 : 32768 ^ k ≤ 32768 ^ (l.length - 1) := Nat.pow_le_pow_right (by omega) (by omega)
    omega
  · exact hge
theorem Num.zero {N : Nat} (h : Num w B A n c N) : n = 0 ↔ N = 0 := by
  obtain ⟨l, h1, h2, rfl⟩ := h
  rw [val_eq_zero h2, ← h1.len]
  exact List.length_eq_zero_iff
end Go.Proofs.Ytifjdfdjojkagaa
