/- Laws for a slice that the call itself has made: one element is pushed onto it. An own row, opened; bytes as a string; a block that stands in a later world. Tokens, as plain data and as they lie in memory. Terms: as plain trees, and as they lie in memory. -/
import Derived.WalkKit
import Derived.Laws.OwnMore
import Derived.Deep.AppendLies
import Derived.Laws.Rows
import Derived.Laws.AppendOwnNone
import Derived.Test.YtibcpdmeigdgpaaGreatDoorProg
import Derived.Lib.Hide
import Derived.Below
import Derived.Laws.BytesArg
import Derived.OwnWalk
import Derived.Deep.DeepMust
namespace Go.Proofs.YtibcpdmeigdgpaaGreatDoor
open Go.RowKit
structure El (P : Program) (t e : TypeId) (z : Value) (size bytes : Nat) : Prop where
 ht : P.underlying t = some (.slice e)
 hi : ∃ i, P.info? e = some i ∧ i.zero = some z ∧ i.size = size ∧ i.bytes = bytes
 hzs : z.cells.size = size
 pos : 0 < size
theorem ownBlock_ge {w : World} {base : Nat} {e : TypeId} {size : Nat} {v : Value} {n : Nat} {xs : List Value} (h : w.ownsRow base e size v n xs) : ∀ k, v.ownBlock = some k → base ≤ k := by
 intro k hk
 rcases h.2 with ⟨rfl, _⟩ | ⟨g, cap, cur, rfl, hb, _⟩
 ·simp [Value.ownBlock] at hk
 ·simp [Value.ownBlock] at hk; omega
theorem below_own {w w' : World} {base : Nat} {e : TypeId} {size : Nat} {v : Value} {n : Nat} {xs : List Value} (h : w.ownsRow base e size v n xs) (hg : w.grownBy w' v.ownBlock) (hb : base ≤ w.heap.size) : Below base w w' :=
 (Below.refl _ _).grown hg hb (ownBlock_ge h)
theorem wpList_push {P : Program} (w : World) {ops : Array Oper} {rest : List Oper} {o : Oper} {a : Act} {Q : Exit → Act → World → Prop} (hgd : o.guard = none) (s x : Operand) (t : TypeId)
 (ho : o.op = .call { callee := .builtin .append, args := #[s, x], argTypes := #[t, t] })
 {e : TypeId} {z : Value} {bytes : Nat} (E : El P t e z 1 bytes) (base : Nat)
 (v : Value) (n : Nat) (xs : List Value) (hs : a.eval s = v) (hown : w.ownsRow base e 1 v n xs)
 (g c : Nat) (u : Value) (hx : a.eval x = .slice (some ⟨g, 0, none⟩) 1 c) (hu : w.cell? ⟨g, 0, none⟩ = some u) (h1 : u.oneCell' = true)
 (hn : (n + 1) * bytes ≤ 140737488355328) (hm : n + 1 ≤ maxLen) (hbase : base ≤ w.heap.size)
 (h : ∀ v' w', w'.ownsRow base e 1 v' (n + 1) (xs ++ [u]) → Below base w w' → wpList P ops Q rest (a.put o.dst v') w') : wpList P ops Q (o :: rest) a w := by
 obtain ⟨i, hi, hz, hsz, hby⟩ := E.hi
 refine wpList_append_own w hgd s x t ho base e i z 1 bytes E.ht hi hz hsz hby E.hzs (by omega) v n xs hs hown ⟨g, 0, none⟩ 1 c [u] hx rfl ?_ ?_ hm hn hbase fun v' w' h2 h3 _ => h v' w' h2 (below_own hown h3 hbase)
 ·intro j u' hj
  match j, hj with
  | 0, hj => simp at hj; subst hj; simpa [Addr.add] using hu
 ·intro u' hu'
  simp at hu'
  subst hu'
  exact h1
theorem heap_at (w : World) (o : Obj) {g : Nat} (h : g = w.heap.size) : (w.alloc o).heap[g]? = some o := by subst h; exact heap_alloc_new w o
theorem wpList_append_cells {P : Program} (w : World) {ops : Array Oper} {rest : List Oper} {o : Oper} {a : Act} {Q : Exit → Act → World → Prop} (hgd : o.guard = none) (s x : Operand) (t : TypeId)
 (ho : o.op = .call { callee := .builtin .append, args := #[s, x], argTypes := #[t, t] })
 {e : TypeId} {z : Value} {size bytes : Nat} (E : El P t e z size bytes) (base : Nat)
 (v : Value) (n : Nat) (xs : List Value) (hs : a.eval s = v) (hown : w.ownsRow base e size v n xs)
 (A : Option Addr) (m c : Nat) (us : List Value) (hx : a.eval x = .slice A m c) (hA : A = none → c = 0) (hmc : m ≤ c) (hl : us.length = m * size)
 (hu : 0 < m → ∃ b off, A = some ⟨b, off, none⟩ ∧ ∀ j u, us[j]? = some u → w.cell? ⟨b, off + j, none⟩ = some u) (h1 : ∀ u ∈ us, u.oneCell' = true)
 (hn : (n + m) * bytes ≤ 140737488355328) (hm : n + m ≤ maxLen) (hbase : base ≤ w.heap.size)
 (h : ∀ v' w', w'.ownsRow base e size v' (n + m) (xs ++ us) → w.grownBy w' v.ownBlock → wpList P ops Q rest (a.put o.dst v') w') : wpList P ops Q (o :: rest) a w := by
 obtain ⟨i, hi, hz, hsz, hby⟩ := E.hi
 rcases A with _ | ad
 ·have hc := hA rfl
  subst hc
  obtain rfl : m = 0 := by omega
  have hus : us = [] := List.eq_nil_of_length_eq_zero (by omega)
  subst hus
  exact wpList_append_own_none hgd s x t ho base e i size E.ht hi v n xs hs hown hx (h v w (by simpa using hown) (World.grownBy.refl w _))
 ·refine wpList_append_own w hgd s x t ho base e i z size bytes E.ht hi hz hsz hby E.hzs E.pos v n xs hs hown ad m c us hx hl ?_ h1 hm hn hbase fun v' w' h2 h3 _ => h v' w' h2 h3
  intro j u hj
  rcases Nat.eq_zero_or_pos m with h0 | h0
  ·subst h0
   have hus : us = [] := List.eq_nil_of_length_eq_zero (by omega)
   subst hus
   simp at hj
  ·obtain ⟨b, off, he, hc⟩ := hu h0
   injection he with he
   subst he
   have := hc j u hj
   unfold Addr.add
   split
   ·rename_i hj0; subst hj0; simpa using this
   ·exact this
theorem ownsRow_more {w : World} {base base' : Nat} {e : TypeId} {size : Nat} {v : Value} {n : Nat} {xs : List Value} (h : w.ownsRow base e size v n xs) (hb : base' ≤ base) : w.ownsRow base' e size v n xs := by
 obtain ⟨h1, h2⟩ := h
 refine ⟨h1, ?_⟩
 rcases h2 with h2 | ⟨g, cap, cur, hv, hg, hr⟩
 ·exact .inl h2
 ·exact .inr ⟨g, cap, cur, hv, by omega, hr⟩
theorem ownsRow_empty (w : World) (e : TypeId) (size : Nat) (g : Nat) (hg : w.heap[g]? = some (.cells #[] e (0, 0))) : w.ownsRow g e size (.slice (some ⟨g, 0, none⟩) 0 0) 0 [] :=
 ⟨by simp, .inr ⟨g, 0, #[], rfl, Nat.le_refl _, hg, by omega, by unfold maxLen; omega, by simp, by simp⟩⟩
end Go.Proofs.YtibcpdmeigdgpaaGreatDoor
namespace Go.Proofs.YtibcpdmeigdgpaaGreatDoor
open Go.RowKit
theorem heap_lt {w : World} {g : Nat} {o : Obj} (h : w.heap[g]? = some o) : g < w.heap.size := by
 rcases Nat.lt_or_ge g w.heap.size with hlt | hge
 ·exact hlt
 ·rw [Array.getElem?_eq_none hge] at h; cases h
theorem own_keep {w w' : World} {base : Nat} {e : TypeId} {size : Nat} {v : Value} {n : Nat} {xs : List Value} (h : w.ownsRow base e size v n xs)
 (hk : ∀ g, v.ownBlock = some g → w'.heap[g]? = w.heap[g]?) : w'.ownsRow base e size v n xs := by
 obtain ⟨h1, h2⟩ := h
 refine ⟨h1, ?_⟩
 rcases h2 with h2 | ⟨g, cap, cur, hv, hg, hh, hr⟩
 ·exact .inl h2
 ·subst hv
  exact .inr ⟨g, cap, cur, rfl, hg, (hk g rfl).trans hh, hr⟩
theorem own_below {w w' : World} {base : Nat} {e : TypeId} {size : Nat} {v : Value} {n : Nat} {xs : List Value} (h : w.ownsRow base e size v n xs) (hb : Below w.heap.size w w') : w'.ownsRow base e size v n xs :=
 own_keep h fun g hg => hb.block g (h.lt g hg).2
theorem own_open {w : World} {base : Nat} {e : TypeId} {size : Nat} {v : Value} {n : Nat} {xs : List Value} (h : w.ownsRow base e size v n xs) :
 ∃ A c, v = .slice A n c ∧ n ≤ c ∧ (A = none → c = 0) ∧ c ≤ maxLen ∧
  (0 < n → ∃ g cur, A = some ⟨g, 0, none⟩ ∧ base ≤ g ∧ w.heap[g]? = some (.cells cur e (0, 0)) ∧ ∀ j, j < n * size → cur[j]? = xs[j]?) := by
 rcases h.2 with ⟨rfl, h0⟩ | ⟨g, cap, cur, rfl, hg, hh, hnc, hmx, hsz, htk⟩
 ·subst h0
  exact ⟨none, 0, rfl, Nat.le_refl _, fun _ => rfl, Nat.zero_le _, fun h => absurd h (by omega)⟩
 ·refine ⟨_, cap, rfl, hnc, fun h => by (cases h), hmx, fun _ => ⟨g, cur, rfl, hg, hh, fun j hj => ?_⟩⟩
  have h1 : (cur.toList.take (n * size))[j]? = xs[j]? := by rw [htk]
  rw [List.getElem?_take, if_pos hj] at h1
  rw [← Array.getElem?_toList, h1]
theorem own_len {w : World} {base : Nat} {e : TypeId} {size : Nat} {v : Value} {n : Nat} {xs : List Value} (h : w.ownsRow base e size v n xs) : xs.length = n * size := h.1
theorem Tryz.info_u8 : (Tryz.prog.info? 5).map (fun i => (i.zero, i.size, i.bytes)) = some (some (.int .u8 0), 1, 1) := by kernel_rfl
theorem elU8 : El Tryz.prog 117 5 (.int .u8 0) 1 1 := by
 obtain ⟨i0, hi, hz0, hz1, hz2⟩ := info_parts Tryz.info_u8
 exact ⟨Tryz.underlying117, ⟨i0, hi, hz0, hz1, hz2⟩, rfl, by omega⟩
end Go.Proofs.YtibcpdmeigdgpaaGreatDoor
namespace Go.Proofs.YtibcpdmeigdgpaaGreatDoor
open Go.RowKit
structure Tk where
 k : Int
 t : ByteArray
 a : Nat
 b : Nat
def Tk.cells (x : Tk) : List Value := [.int .i64 x.k, .string x.t, .int .i64 (x.a : Int), .int .i64 (x.b : Int)]
def tkCells (l : List Tk) : List Value := l.flatMap Tk.cells
def Tk.ok (n : Nat) (x : Tk) : Prop := 1 ≤ x.k ∧ x.k ≤ 6 ∧ x.t.size ≤ n ∧ x.a < x.b ∧ x.b ≤ n
theorem tkCells_at : ∀ (l : List Tk) (i : Nat) (h : i < l.length) (j : Nat), j < 4 → (tkCells l)[4 * i + j]? = (l[i]'h).cells[j]?
 | x :: l, 0, _, j, hj => by
  simp only [tkCells, List.flatMap_cons, Nat.mul_zero, Nat.zero_add, List.getElem_cons_zero]
  exact List.getElem?_append_left (by simpa [Tk.cells] using hj)
 | x :: l, i + 1, h, j, hj => by
  have ih := tkCells_at l i (by simpa using h) j hj
  simp only [tkCells, List.flatMap_cons, List.getElem_cons_succ] at ih ⊢
  rw [List.getElem?_append_right (by simp [Tk.cells]; omega), ← ih]
  congr 1
  simp [Tk.cells]; omega
theorem tkCells_snoc (l : List Tk) (x : Tk) : tkCells l ++ x.cells = tkCells (l ++ [x]) := by simp [tkCells]
theorem blk_set {w : World} {g : Nat} {t : TypeId} {cs : Array Value} {m : Nat × Nat} (h : w.heap[g]? = some (.cells cs t m)) (i : Nat) (u : Value) : (w.setCell ⟨g, i, none⟩ u).heap[g]? = some (.cells (cs.setIfInBounds i u) t m) := by
 simp [World.setCell, Array.getElem?_modify, h]
theorem box4t {w : World} {g : Nat} {t : TypeId} {f : Nat × Nat} {a b c d : Value} (h : w.heap[g]? = some (.cells #[a, b, c, d] t f)) :
 w.cell? ⟨g, 0, none⟩ = some a ∧ w.cell? ⟨g, 1, none⟩ = some b ∧ w.cell? ⟨g, 2, none⟩ = some c ∧ w.cell? ⟨g, 3, none⟩ = some d :=
 ⟨cell_of_row w g 0 _ _ _ h, cell_of_row w g 1 _ _ _ h, cell_of_row w g 2 _ _ _ h, cell_of_row w g 3 _ _ _ h⟩
theorem box_after {B : Nat} {w w' : World} {v : Value} {g : Nat} {t : TypeId} {f : Nat × Nat} {a b c d : Value} (hg : w.grownBy w' v.ownBlock) (h : w.heap[g]? = some (.cells #[a, b, c, d] t f)) (hlt : ∀ k, v.ownBlock = some k → B ≤ k ∧ k < g) :
 w'.cell? ⟨g, 3, none⟩ = some d :=
 (box4t ((hg.block g (heap_lt h) (fun e => by have := (hlt g e.symm).2; omega)).trans h)).2.2.2
theorem one4 (x : Tk) : ∀ u ∈ x.cells, u.oneCell' = true := by
 intro u hu
 simp only [Tk.cells, List.mem_cons, List.not_mem_nil, or_false] at hu
 rcases hu with rfl | rfl | rfl | rfl <;> rfl
theorem cells4 {w : World} (x : Tk) (t : TypeId) (g : Nat) (hg : g = w.heap.size) : ∀ (j : Nat) (u : Value), x.cells[j]? = some u →
 (w.alloc (.cells #[.int .i64 x.k, .string x.t, .int .i64 (x.a : Int), .int .i64 (x.b : Int)] t)).cell? ⟨g, 0 + j, none⟩ = some u := by
 subst hg
 intro j u hu
 rw [Nat.zero_add, cell_of_row _ _ j _ _ _ (heap_alloc_new _ _)]
 simpa [Tk.cells] using hu
end Go.Proofs.YtibcpdmeigdgpaaGreatDoor
namespace Go.Proofs.YtibcpdmeigdgpaaGreatDoor
open Go.RowKit
inductive T where
 | nil
 | mk (k n : Int) (s : ByteArray) (m : Nat) (a : Nat → T)
def TIn (w : World) (B : Nat) : T → Value → Prop
 | .nil, _ => False
 | .mk k n s m a, v => ∃ A c, v = .agg #[.int .i64 k, .int .i64 n, .string s, .slice A m c] ∧ m ≤ c ∧ (A = none → c = 0) ∧
  (0 < m → ∃ b off, A = some ⟨b, off, none⟩ ∧ b < B ∧ ∀ i, i < m → ∃ v0 v1 v2 v3, w.cell? ⟨b, off + 4 * i, none⟩ = some v0 ∧ w.cell? ⟨b, off + 4 * i + 1, none⟩ = some v1 ∧
    w.cell? ⟨b, off + 4 * i + 2, none⟩ = some v2 ∧ w.cell? ⟨b, off + 4 * i + 3, none⟩ = some v3 ∧ TIn w B (a i) (.agg #[v0, v1, v2, v3]))
theorem TIn.below {w w' : World} {B : Nat} (h : Below B w w') : ∀ {t : T} {v : Value}, TIn w B t v → TIn w' B t v := by
 intro t
 induction t with
 | nil => exact fun h => h.elim
 | mk k n s m a ih =>
  rintro v ⟨A, c, rfl, hmc, hA, hx⟩
  refine ⟨A, c, rfl, hmc, hA, fun hm => ?_⟩
  obtain ⟨b, off, rfl, hb, hc⟩ := hx hm
  refine ⟨b, off, rfl, hb, fun i hi => ?_⟩
  obtain ⟨v0, v1, v2, v3, h0, h1, h2, h3, ht⟩ := hc i hi
  exact ⟨v0, v1, v2, v3, (h.cell hb).trans h0, (h.cell hb).trans h1, (h.cell hb).trans h2, (h.cell hb).trans h3, ih i ht⟩
theorem TIn.more {w : World} {B B' : Nat} (h : B ≤ B') : ∀ {t : T} {v : Value}, TIn w B t v → TIn w B' t v := by
 intro t
 induction t with
 | nil => exact fun h => h.elim
 | mk k n s m a ih =>
  rintro v ⟨A, c, rfl, hmc, hA, hx⟩
  refine ⟨A, c, rfl, hmc, hA, fun hm => ?_⟩
  obtain ⟨b, off, rfl, hb, hc⟩ := hx hm
  refine ⟨b, off, rfl, by omega, fun i hi => ?_⟩
  obtain ⟨v0, v1, v2, v3, h0, h1, h2, h3, ht⟩ := hc i hi
  exact ⟨v0, v1, v2, v3, h0, h1, h2, h3, ih i ht⟩
structure TAt (w : World) (B : Nat) (k n : Int) (s : ByteArray) (m : Nat) (a : Nat → T) (A : Option Addr) (c : Nat) : Prop where
 cap : m ≤ c
 nil : A = none → c = 0
 cells : 0 < m → ∃ b off, A = some ⟨b, off, none⟩ ∧ b < B ∧ ∀ i, i < m → ∃ v0 v1 v2 v3, w.cell? ⟨b, off + 4 * i, none⟩ = some v0 ∧ w.cell? ⟨b, off + 4 * i + 1, none⟩ = some v1 ∧
  w.cell? ⟨b, off + 4 * i + 2, none⟩ = some v2 ∧ w.cell? ⟨b, off + 4 * i + 3, none⟩ = some v3 ∧ TIn w B (a i) (.agg #[v0, v1, v2, v3])
theorem TIn.open_ {w : World} {B : Nat} {k n : Int} {s : ByteArray} {m : Nat} {a : Nat → T} {v : Value} (h : TIn w B (.mk k n s m a) v) :
 ∃ A c, v = .agg #[.int .i64 k, .int .i64 n, .string s, .slice A m c] ∧ TAt w B k n s m a A c := by
 obtain ⟨A, c, rfl, hmc, hA, hx⟩ := h
 exact ⟨A, c, rfl, hmc, hA, hx⟩
end Go.Proofs.YtibcpdmeigdgpaaGreatDoor
