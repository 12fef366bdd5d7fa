/- Laws for a slice that the call itself has made: one element is pushed onto it. -/
import Derived.WalkKit
import Derived.Laws.OwnMore
import Derived.Deep.AppendLies
import Derived.Laws.Rows
import Derived.Laws.AppendOwnNone
namespace Go.Proofs.YtlojlgcnhacleaaDoor
open Go.RowKit

/-- What a walk wants of a slice type and its element's type. -/
structure El (P : Program) (t e : TypeId) (z : Value) (size bytes : Nat) : Prop where
  ht : P.underlying t = some (.slice e)
  hi : ∃ i, P.info? e = some i ∧ i.zero = some z ∧ i.size = size ∧ i.bytes = bytes
  hzs : z.cells.size = size
  pos : 0 < size

theorem ownBlock_ge {w : World} {base : Nat} {e : TypeId} {size : Nat} {v : Value} {n : Nat} {xs : List Value} (h : w.ownsRow base e size v n xs) : ∀ k, v.ownBlock = some k → base ≤ k := by
  intro k hk
  rcases h.2 with ⟨rfl, _⟩ | ⟨g, cap, cur, rfl, hb, _⟩
  · simp [Value.ownBlock] at hk
  · simp [Value.ownBlock] at hk; omega
theorem below_own {w w' : World} {base : Nat} {e : TypeId} {size : Nat} {v : Value} {n : Nat} {xs : List Value} (h : w.ownsRow base e size v n xs) (hg : w.grownBy w' v.ownBlock) (hb : base ≤ w.heap.size) : Below base w w' :=
  (Below.refl _ _).grown hg hb (ownBlock_ge h)

/-- 'out = append(out, x)', x of one cell: it lies in a block of its own at g. -/
theorem wpList_push {P : Program} (w : World) {ops : Array Oper} {rest : List Oper} {o : Oper} {a : Act} {Q : Exit → Act → World → Prop} (hgd : o.guard = none) (s x : Operand) (t : TypeId)
    (ho : o.op = .call { callee := .builtin .append, args := #[s, x], argTypes := #[t, t] })
    {e : TypeId} {z : Value} {bytes : Nat} (E : El P t e z 1 bytes) (base : Nat)
    (v : Value) (n : Nat) (xs : List Value) (hs : a.eval s = v) (hown : w.ownsRow base e 1 v n xs)
    (g c : Nat) (u : Value) (hx : a.eval x = .slice (some ⟨g, 0, none⟩) 1 c) (hu : w.cell? ⟨g, 0, none⟩ = some u) (h1 : u.oneCell' = true)
    (hn : (n + 1) * bytes ≤ 140737488355328) (hm : n + 1 ≤ maxLen) (hbase : base ≤ w.heap.size)
    (h : ∀ v' w', w'.ownsRow base e 1 v' (n + 1) (xs ++ [u]) → Below base w w' → wpList P ops Q rest (a.put o.dst v') w') : wpList P ops Q (o :: rest) a w := by
  obtain ⟨i, hi, hz, hsz, hby⟩ := E.hi
  refine wpList_append_own w hgd s x t ho base e i z 1 bytes E.ht hi hz hsz hby E.hzs (by omega) v n xs hs hown ⟨g, 0, none⟩ 1 c [u] hx rfl ?_ ?_ hm hn hbase fun v' w' h2 h3 _ => h v' w' h2 (below_own hown h3 hbase)
  · intro j u' hj
    match j, hj with
    | 0, hj => simp at hj; subst hj; simpa [Addr.add] using hu
  · intro u' hu'
    simp at hu'
    subst hu'
    exact h1
theorem wpList_push_any {P : Program} (w : World) {ops : Array Oper} {rest : List Oper} {o : Oper} {a : Act} {Q : Exit → Act → World → Prop} (hgd : o.guard = none) (s x : Operand) (t : TypeId)
    (ho : o.op = .call { callee := .builtin .append, args := #[s, x], argTypes := #[t, t] })
    {e : TypeId} {z : Value} {size bytes : Nat} (E : El P t e z size bytes) (base : Nat)
    (v : Value) (n : Nat) (xs : List Value) (hs : a.eval s = v) (hown : w.ownsRow base e size v n xs)
    (g c : Nat) (us : List Value) (hx : a.eval x = .slice (some ⟨g, 0, none⟩) 1 c) (hl : us.length = size) (hu : ∀ j u, us[j]? = some u → w.cell? ⟨g, j, none⟩ = some u) (h1 : ∀ u ∈ us, u.oneCell' = true)
    (hn : (n + 1) * bytes ≤ 140737488355328) (hm : n + 1 ≤ maxLen) (hbase : base ≤ w.heap.size)
    (h : ∀ v' w', w'.ownsRow base e size v' (n + 1) (xs ++ us) → Below base w w' → wpList P ops Q rest (a.put o.dst v') w') : wpList P ops Q (o :: rest) a w := by
  obtain ⟨i, hi, hz, hsz, hby⟩ := E.hi
  refine wpList_append_own w hgd s x t ho base e i z size bytes E.ht hi hz hsz hby E.hzs E.pos v n xs hs hown ⟨g, 0, none⟩ 1 c us hx (by omega) ?_ h1 hm hn hbase fun v' w' h2 h3 _ => h v' w' h2 (below_own hown h3 hbase)
  intro j u hj
  have := hu j u hj
  unfold Addr.add
  split
  · rename_i h0; subst h0; exact this
  · simpa using this
theorem heap_at (w : World) (o : Obj) {g : Nat} (h : g = w.heap.size) : (w.alloc o).heap[g]? = some o := by subst h; exact heap_alloc_new w o
theorem heap_drew (w : World) (g : Nat) : w.drew.heap[g]? = w.heap[g]? := rfl
theorem box2 {w : World} {g : Nat} {t : TypeId} {a b : Value} (h : w.heap[g]? = some (.cells #[a, b] t (0, 0))) :
    w.cell? ⟨g, 0, none⟩ = some a ∧ w.cell? ⟨g, 1, none⟩ = some b ∧ w.frozen? ⟨g, 0, none⟩ = false ∧ w.frozen? ⟨g, 1, none⟩ = false :=
  ⟨cell_of_row w g 0 _ _ _ h, cell_of_row w g 1 _ _ _ h, by simp [World.frozen?, h], by simp [World.frozen?, h]⟩
/-- 'out = append(out, xs...)', xs whatever slice of one-cell elements that can be read, nil too. -/
theorem wpList_append_cells {P : Program} (w : World) {ops : Array Oper} {rest : List Oper} {o : Oper} {a : Act} {Q : Exit → Act → World → Prop} (hgd : o.guard = none) (s x : Operand) (t : TypeId)
    (ho : o.op = .call { callee := .builtin .append, args := #[s, x], argTypes := #[t, t] })
    {e : TypeId} {z : Value} {size bytes : Nat} (E : El P t e z size bytes) (base : Nat)
    (v : Value) (n : Nat) (xs : List Value) (hs : a.eval s = v) (hown : w.ownsRow base e size v n xs)
    (A : Option Addr) (m c : Nat) (us : List Value) (hx : a.eval x = .slice A m c) (hA : A = none → c = 0) (hmc : m ≤ c) (hl : us.length = m * size)
    (hu : 0 < m → ∃ b off, A = some ⟨b, off, none⟩ ∧ ∀ j u, us[j]? = some u → w.cell? ⟨b, off + j, none⟩ = some u) (h1 : ∀ u ∈ us, u.oneCell' = true)
    (hn : (n + m) * bytes ≤ 140737488355328) (hm : n + m ≤ maxLen) (hbase : base ≤ w.heap.size)
    (h : ∀ v' w', w'.ownsRow base e size v' (n + m) (xs ++ us) → w.grownBy w' v.ownBlock → wpList P ops Q rest (a.put o.dst v') w') : wpList P ops Q (o :: rest) a w := by
  obtain ⟨i, hi, hz, hsz, hby⟩ := E.hi
  rcases A with _ | ad
  · have hc := hA rfl
    subst hc
    obtain rfl : m = 0 := by omega
    have hus : us = [] := List.eq_nil_of_length_eq_zero (by omega)
    subst hus
    exact wpList_append_own_none hgd s x t ho base e i size E.ht hi v n xs hs hown hx (h v w (by simpa using hown) (World.grownBy.refl w _))
  · refine wpList_append_own w hgd s x t ho base e i z size bytes E.ht hi hz hsz hby E.hzs E.pos v n xs hs hown ad m c us hx hl ?_ h1 hm hn hbase fun v' w' h2 h3 _ => h v' w' h2 h3
    intro j u hj
    rcases Nat.eq_zero_or_pos m with h0 | h0
    · subst h0
      have hus : us = [] := List.eq_nil_of_length_eq_zero (by omega)
      subst hus
      simp at hj
    · obtain ⟨b, off, he, hc⟩ := hu h0
      injection he with he
      subst he
      have := hc j u hj
      unfold Addr.add
      split
      · rename_i hj0; subst hj0; simpa using this
      · exact this
theorem ownsRow_more {w : World} {base base' : Nat} {e : TypeId} {size : Nat} {v : Value} {n : Nat} {xs : List Value} (h : w.ownsRow base e size v n xs) (hb : base' ≤ base) : w.ownsRow base' e size v n xs := by
  obtain ⟨h1, h2⟩ := h
  refine ⟨h1, ?_⟩
  rcases h2 with h2 | ⟨g, cap, cur, hv, hg, hr⟩
  · exact .inl h2
  · exact .inr ⟨g, cap, cur, hv, by omega, hr⟩
theorem ownsRow_empty (w : World) (e : TypeId) (size : Nat) (g : Nat) (hg : w.heap[g]? = some (.cells #[] e (0, 0))) : w.ownsRow g e size (.slice (some ⟨g, 0, none⟩) 0 0) 0 [] :=
  ⟨by simp, .inr ⟨g, 0, #[], rfl, Nat.le_refl _, hg, by omega, by unfold maxLen; omega, by simp, by simp⟩⟩
end Go.Proofs.YtlojlgcnhacleaaDoor
