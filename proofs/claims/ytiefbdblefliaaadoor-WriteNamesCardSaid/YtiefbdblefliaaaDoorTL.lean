/- Rows of terms of one's own. -/
import Derived.Test.YtiefbdblefliaaaDoorRd3
import Derived.Test.YtiefbdblefliaaaDoorGd
import Derived.Maps.AppendAt
namespace Go.Proofs.YtiefbdblefliaaaDoor
open Go.RowKit

/-- A term's own parts, as they lie in a row. -/
structure Q6 where
  k : Int
  n : Int
  s : ByteArray
  A : Option Addr
  m : Nat
  c : Nat
def Q6.cells (q : Q6) : List Value := [.int .i64 q.k, .int .i64 q.n, .string q.s, .slice q.A q.m q.c]
def Q6.val (q : Q6) : Value := .agg #[.int .i64 q.k, .int .i64 q.n, .string q.s, .slice q.A q.m q.c]
def qCells (l : List Q6) : List Value := l.flatMap Q6.cells
theorem qCells_length (l : List Q6) : (qCells l).length = l.length * 4 := by
  induction l with
  | nil => rfl
  | cons x l ih => simp only [qCells, List.flatMap_cons, List.length_append, List.length_cons] at ih ⊢; rw [ih]; simp [Q6.cells]; omega
theorem qCells_at : ∀ (l : List Q6) (i : Nat) (h : i < l.length) (j : Nat), j < 4 → (qCells l)[i * 4 + j]? = (l[i]'h).cells[j]?
  | x :: l, 0, _, j, hj => by
    simp only [qCells, List.flatMap_cons, Nat.zero_mul, Nat.zero_add, List.getElem_cons_zero]
    exact List.getElem?_append_left (by simpa [Q6.cells] using hj)
  | x :: l, i + 1, h, j, hj => by
    have ih := qCells_at l i (by simpa using h) j hj
    simp only [qCells, List.flatMap_cons, List.getElem_cons_succ] at ih ⊢
    rw [List.getElem?_append_right (by simp [Q6.cells]; omega), ← ih]
    congr 1
    simp [Q6.cells]; omega
theorem qCells_app (l r : List Q6) : qCells l ++ qCells r = qCells (l ++ r) := by simp [qCells]
theorem qCells_one (q : Q6) : q.cells = qCells [q] := by simp [qCells]
theorem qCells_small (l : List Q6) : ∀ u ∈ qCells l, u.oneCell' = true := by
  intro u hu
  simp only [qCells, List.mem_flatMap] at hu
  obtain ⟨q, _, hu⟩ := hu
  simp only [Q6.cells, List.mem_cons, List.not_mem_nil, or_false] at hu
  rcases hu with rfl | rfl | rfl | rfl <;> rfl
theorem TP.q6 {w : World} {S : Nat → Prop} {t : T} {v : Value} (h : TP w S t v) : ∃ q : Q6, v = q.val := by
  obtain ⟨k, n, s, A, m, c, rfl⟩ := h.agg
  exact ⟨⟨k, n, s, A, m, c⟩, rfl⟩
/-- A row of terms of one's own, from block B on: the terms lie in blocks ahead of B (S), or in some (P) that are not the row's. -/
structure TL (w : World) (B : Nat) (S P : Nat → Prop) (v : Value) (l : List T) (qs : List Q6) : Prop where
  len : qs.length = l.length
  own : w.ownsRow B 24 4 v l.length (qCells qs)
  tp : ∀ i (h : i < l.length) (h' : i < qs.length), TP w (fun b => S b ∨ P b) (l[i]) (qs[i]).val
  lo : ∀ b, P b → B ≤ b ∧ b < w.heap.size
  off : ∀ g, v.ownBlock = some g → ¬ P g
  NB : ∀ b, S b → b < B
theorem TL.below {w w' : World} {B : Nat} {S P : Nat → Prop} {v : Value} {l : List T} {qs : List Q6} (h : TL w B S P v l qs) (hb : Below w.heap.size w w') : TL w' B S P v l qs :=
  ⟨h.len, own_below h.own hb, fun i h1 h2 => (h.tp i h1 h2).below hb, fun b hP => ⟨(h.lo b hP).1, Nat.lt_of_lt_of_le (h.lo b hP).2 hb.size⟩, h.off, h.NB⟩
theorem TL.empty {w : World} {B : Nat} {S : Nat → Prop} {v : Value} (h : w.ownsRow B 24 4 v 0 []) (hN : ∀ b, S b → b < B) : TL w B S (fun _ => False) v [] [] :=
  ⟨rfl, h, fun i h1 => absurd h1 (by simp), fun _ h => h.elim, fun _ _ h => h, hN⟩
/-- More terms behind it. -/
theorem TL.app {w w' : World} {B : Nat} {S P P2 : Nat → Prop} {v v' : Value} {l l2 : List T} {qs q2 : List Q6} (h : TL w B S P v l qs) (hlen : q2.length = l2.length) (hown : w'.ownsRow B 24 4 v' (l.length + l2.length) (qCells qs ++ qCells q2))
    (hg : w.grownBy w' v.ownBlock) (hat : v'.ownBlock = v.ownBlock ∨ v'.ownBlock = some w.heap.size) (ht : ∀ i (h : i < l2.length) (h' : i < q2.length), TP w (fun b => S b ∨ P2 b) (l2[i]) (q2[i]).val)
    (hlo : ∀ b, P2 b → B ≤ b ∧ b < w.heap.size) (hoff : ∀ g, v.ownBlock = some g → ¬ P2 g) : TL w' B S (fun b => P b ∨ P2 b) v' (l ++ l2) (qs ++ q2) := by
  have hne : ∀ b, (S b ∨ P b ∨ P2 b) → some b ≠ v.ownBlock := by
    intro b hb he
    rcases hb with hb | hb | hb
    · have h1 := (h.own.lt b he.symm).1
      have := h.NB b hb
      omega
    · exact h.off b he.symm hb
    · exact hoff b he.symm hb
  have keep : ∀ {t : T} {x : Value} {S0 : Nat → Prop}, (∀ b, S0 b → S b ∨ P b ∨ P2 b) → TP w S0 t x → TP w' (fun b => S b ∨ P b ∨ P2 b) t x := fun hS hx => hx.keep fun b cs f hb hh => by
    refine ⟨(hg.block b (heap_lt hh) fun e => hne b (hS b hb) e).trans hh, hS b hb⟩
  refine ⟨by simp [h.len, hlen], by simpa [qCells] using hown, ?_, ?_, ?_, h.NB⟩
  · intro i h1 h2
    by_cases hi : i < l.length
    · rw [List.getElem_append_left hi, List.getElem_append_left (by rw [h.len]; exact hi)]
      exact keep (fun b hb => by rcases hb with hb | hb; exact .inl hb; exact .inr (.inl hb)) (h.tp i hi _)
    · rw [List.getElem_append_right (by omega), List.getElem_append_right (by rw [h.len]; omega)]
      have := ht (i - l.length) (by simp at h1; omega) (by simp at h1; omega)
      simp only [h.len] at this ⊢
      exact keep (fun b hb => by rcases hb with hb | hb; exact .inl hb; exact .inr (.inr hb)) this
  · intro b hb
    rcases hb with hb | hb
    · exact ⟨(h.lo b hb).1, Nat.lt_of_lt_of_le (h.lo b hb).2 hg.size⟩
    · exact ⟨(hlo b hb).1, Nat.lt_of_lt_of_le (hlo b hb).2 hg.size⟩
  · intro g hv hP
    rcases hat with hat | hat
    · rw [hat] at hv
      rcases hP with hP | hP
      · exact h.off g hv hP
      · exact hoff g hv hP
    · rw [hat] at hv
      injection hv with hv
      subst hv
      rcases hP with hP | hP
      · have := (h.lo _ hP).2; omega
      · have := (hlo _ hP).2; omega
/-- An element of such a row, as it lies in memory. -/
theorem TL.at_ {w : World} {B : Nat} {S P : Nat → Prop} {A : Option Addr} {n c : Nat} {l : List T} {qs : List Q6} (h : TL w B S P (.slice A n c) l qs) (hn : n = l.length) {i : Nat} (hi : i < l.length) :
    ∃ (g : Nat) (q : Q6), A = some ⟨g, 0, none⟩ ∧ B ≤ g ∧ g < w.heap.size ∧ ¬ P g ∧ w.cell? ⟨g, i * 4, none⟩ = some (.int .i64 q.k) ∧ w.cell? ⟨g, i * 4 + 1, none⟩ = some (.int .i64 q.n) ∧ w.cell? ⟨g, i * 4 + 2, none⟩ = some (.string q.s) ∧ w.cell? ⟨g, i * 4 + 3, none⟩ = some (.slice q.A q.m q.c) ∧
      TP w (fun b => S b ∨ P b) (l[i]) q.val := by
  subst hn
  have hq : i < qs.length := by rw [h.len]; exact hi
  obtain ⟨A', c', he, _, _, _, hx⟩ := own_open h.own
  injection he with e1 _ e3
  subst e1; subst e3
  obtain ⟨g, cur, rfl, hB, hh, hc⟩ := hx (by omega)
  have hc' : ∀ j, j < 4 → w.cell? ⟨g, i * 4 + j, none⟩ = (qs[i]).cells[j]? := fun j hj => by
    rw [cell_of_row w g (i * 4 + j) _ _ _ hh, hc _ (by omega)]
    exact qCells_at qs i hq j hj
  exact ⟨g, qs[i], rfl, hB, heap_lt hh, h.off g rfl, hc' 0 (by omega), hc' 1 (by omega), hc' 2 (by omega), hc' 3 (by omega), h.tp i hi hq⟩
/-- All cells of such a row. -/
theorem TL.all {w : World} {B : Nat} {S P : Nat → Prop} {v : Value} {l : List T} {qs : List Q6} (h : TL w B S P v l qs) : ∃ A c, v = .slice A l.length c ∧ l.length ≤ c ∧ (A = none → c = 0) ∧ (0 < l.length → ∃ b off, A = some ⟨b, off, none⟩ ∧ ∀ j u, (qCells qs)[j]? = some u → w.cell? ⟨b, off + j, none⟩ = some u) := by
  obtain ⟨A, c, rfl, hc, hA, _, hx⟩ := own_open h.own
  refine ⟨A, c, rfl, hc, hA, fun h0 => ?_⟩
  obtain ⟨g, cur, rfl, _, hh, hcur⟩ := hx h0
  refine ⟨g, 0, rfl, fun j u hu => ?_⟩
  have hj : j < l.length * 4 := by
    rcases Nat.lt_or_ge j (qCells qs).length with h1 | h1
    · rw [qCells_length, h.len] at h1; exact h1
    · rw [List.getElem?_eq_none h1] at hu; cases hu
  rw [Nat.zero_add, cell_of_row w g j _ _ _ hh, hcur j hj, hu]
theorem wpList_append_at {P : Program} (w : World) {ops : Array Oper} {rest : List Oper} {o : Oper} {a : Act} {Q : Exit → Act → World → Prop} (hgd : o.guard = none) (s x : Operand) (t : TypeId)
    (ho : o.op = .call { callee := .builtin .append, args := #[s, x], argTypes := #[t, t] })
    {e : TypeId} {z : Value} {size bytes : Nat} (E : El P t e z size bytes) (base : Nat)
    (v : Value) (n : Nat) (xs : List Value) (hs : a.eval s = v) (hown : w.ownsRow base e size v n xs)
    (A : Option Addr) (m c : Nat) (us : List Value) (hx : a.eval x = .slice A m c) (hA : A = none → c = 0) (hmc : m ≤ c) (hl : us.length = m * size)
    (hu : 0 < m → ∃ b off, A = some ⟨b, off, none⟩ ∧ ∀ j u, us[j]? = some u → w.cell? ⟨b, off + j, none⟩ = some u) (h1 : ∀ u ∈ us, u.oneCell' = true)
    (hn : (n + m) * bytes ≤ 140737488355328) (hm : n + m ≤ maxLen) (hbase : base ≤ w.heap.size)
    (h : ∀ v' w', w'.ownsRow base e size v' (n + m) (xs ++ us) → w.grownBy w' v.ownBlock → (v'.ownBlock = v.ownBlock ∨ v'.ownBlock = some w.heap.size) → wpList P ops Q rest (a.put o.dst v') w') : wpList P ops Q (o :: rest) a w := by
  obtain ⟨i, hi, hz, hsz, hby⟩ := E.hi
  rcases A with _ | ad
  · have hc := hA rfl
    subst hc
    obtain rfl : m = 0 := by omega
    have hus : us = [] := List.eq_nil_of_length_eq_zero (by omega)
    subst hus
    exact wpList_append_own_none hgd s x t ho base e i size E.ht hi v n xs hs hown hx (h v w (by simpa using hown) (World.grownBy.refl w _) (.inl rfl))
  · refine wpList_append_own_at w hgd s x t ho base e i z size bytes E.ht hi hz hsz hby E.hzs E.pos v n xs hs hown ad m c us hx hl ?_ h1 hm hn hbase fun v' w' h2 h3 _ h4 => h v' w' h2 h3 h4
    intro j u hj
    rcases Nat.eq_zero_or_pos m with h0 | h0
    · subst h0
      have hus : us = [] := List.eq_nil_of_length_eq_zero (by omega)
      subst hus
      simp at hj
    · obtain ⟨b, off, he, hc⟩ := hu h0
      injection he with he
      subst he
      have := hc j u hj
      unfold Addr.add
      split
      · rename_i h0; subst h0; exact this
      · simpa using this
end Go.Proofs.YtiefbdblefliaaaDoor
