/- Rows of pairs of terms in memory; a new binding in the program's map. -/
import Derived.Test.YtjjkigphfijnbaaUni5
import Derived.WalkSmall
import Derived.Lib.OwnKind
import Derived.Lib.SmallJoins
namespace Go.Proofs.Ytjjkigphfijnbaa
open Go.RowKit

def zP : Value := .agg #[.int .i64 0, .int .i64 0, .string ⟨#[]⟩, .slice none 0 0, .int .i64 0, .int .i64 0, .string ⟨#[]⟩, .slice none 0 0]
theorem Try.info_pair : (Try.prog.info? 69).map (fun i => (i.zero, i.size, i.bytes)) = some (some (.agg #[.int .i64 0, .int .i64 0, .string ⟨#[]⟩, .slice none 0 0, .int .i64 0, .int .i64 0, .string ⟨#[]⟩, .slice none 0 0]), 8, 112) := by kernel_rfl
theorem elPair : El Try.prog 70 69 (.agg #[.int .i64 0, .int .i64 0, .string ⟨#[]⟩, .slice none 0 0, .int .i64 0, .int .i64 0, .string ⟨#[]⟩, .slice none 0 0]) 8 112 := by
  obtain ⟨i0, hi, hz0, hz1, hz2⟩ := info_parts Try.info_pair
  exact ⟨Try.underlying70, ⟨i0, hi, hz0, hz1, hz2⟩, rfl, by omega⟩
/-- A pair's eight cells, at place q of a row. -/
structure PCell (w : World) (xs : List Value) (q : Nat) (p : T × T) (k0 k1 : Int) (k2 : ByteArray) (A0 : Option Addr) (m0 c0 : Nat) (j0 j1 : Int) (j2 : ByteArray) (B0 : Option Addr) (n0 d0 : Nat) : Prop where
  a0 : xs[8 * q]? = some (.int .i64 k0)
  a1 : xs[8 * q + 1]? = some (.int .i64 k1)
  a2 : xs[8 * q + 2]? = some (.string k2)
  a3 : xs[8 * q + 3]? = some (.slice A0 m0 c0)
  b0 : xs[8 * q + 4]? = some (.int .i64 j0)
  b1 : xs[8 * q + 5]? = some (.int .i64 j1)
  b2 : xs[8 * q + 6]? = some (.string j2)
  b3 : xs[8 * q + 7]? = some (.slice B0 n0 d0)
  ta : TP w (fun _ => True) p.1 (.agg #[.int .i64 k0, .int .i64 k1, .string k2, .slice A0 m0 c0])
  tb : TP w (fun _ => True) p.2 (.agg #[.int .i64 j0, .int .i64 j1, .string j2, .slice B0 n0 d0])
/-- A row of pairs, in a block of its own (base B). -/
def PRow (w : World) (B : Nat) (v : Value) (ps : List (T × T)) : Prop :=
  ∃ xs, w.ownsRow B 69 8 v ps.length xs ∧ ∀ q p, ps[q]? = some p → ∃ k0 k1 k2 A0 m0 c0 j0 j1 j2 B0 n0 d0, PCell w xs q p k0 k1 k2 A0 m0 c0 j0 j1 j2 B0 n0 d0
theorem PRow.nil (w : World) (B : Nat) : PRow w B (.slice none 0 0) [] := ⟨[], World.ownsRow_nil _ _ _ _, fun q p h => by simp at h⟩
theorem PCell.keep {w w' : World} {xs xs' : List Value} {q : Nat} {p : T × T} {k0 k1 : Int} {k2 : ByteArray} {A0 : Option Addr} {m0 c0 : Nat} {j0 j1 : Int} {j2 : ByteArray} {B0 : Option Addr} {n0 d0 : Nat}
    (h : PCell w xs q p k0 k1 k2 A0 m0 c0 j0 j1 j2 B0 n0 d0) (hx : ∀ j, j < 8 → xs'[8 * q + j]? = xs[8 * q + j]?) (ht : ∀ {t : T} {v : Value}, TP w (fun _ => True) t v → TP w' (fun _ => True) t v) : PCell w' xs' q p k0 k1 k2 A0 m0 c0 j0 j1 j2 B0 n0 d0 :=
  ⟨(hx 0 (by omega)).trans h.a0, (hx 1 (by omega)).trans h.a1, (hx 2 (by omega)).trans h.a2, (hx 3 (by omega)).trans h.a3, (hx 4 (by omega)).trans h.b0, (hx 5 (by omega)).trans h.b1, (hx 6 (by omega)).trans h.b2, (hx 7 (by omega)).trans h.b3, ht h.ta, ht h.tb⟩
theorem PRow.below {w w' : World} {B : Nat} {v : Value} {ps : List (T × T)} (h : PRow w B v ps) (hb : Below w.heap.size w w') : PRow w' B v ps := by
  obtain ⟨xs, hx, hp⟩ := h
  refine ⟨xs, own_below hx hb, fun q p hq => ?_⟩
  obtain ⟨_, _, _, _, _, _, _, _, _, _, _, _, hc⟩ := hp q p hq
  exact ⟨_, _, _, _, _, _, _, _, _, _, _, _, hc.keep (fun _ _ => rfl) fun ht => ht.below hb⟩
theorem PRow.base {w : World} {B B' : Nat} {v : Value} {ps : List (T × T)} (h : PRow w B v ps) (hB : B' ≤ B) : PRow w B' v ps := by
  obtain ⟨xs, hx, hp⟩ := h
  exact ⟨xs, Go.Joins.ownsRow_le hx hB, hp⟩
theorem PRow.but {b : Nat} {w w' : World} {B : Nat} {v : Value} {ps : List (T × T)} (h : PRow w B v ps) (hb : But b w w') (hm : IsMapAt w b) : PRow w' B v ps := by
  obtain ⟨xs, hx, hp⟩ := h
  refine ⟨xs, own_keep hx fun g hg => ?_, fun q p hq => ?_⟩
  · obtain ⟨c, fz, hh⟩ := Go.Lib.ownsRow_kind hx g hg
    exact (hb.cells hm hh).trans hh.symm
  · obtain ⟨_, _, _, _, _, _, _, _, _, _, _, _, hc⟩ := hp q p hq
    exact ⟨_, _, _, _, _, _, _, _, _, _, _, _, hc.keep (fun _ _ => rfl) fun ht => ht.but hb hm⟩
/-- Terms lie in blocks of terms: what a row of pairs does in its own block leaves them alone. -/
theorem TP.row {w w' : World} {t : T} {v : Value} (ht : TP w (fun _ => True) t v) (hk : ∀ (b : Nat) (cs : Array Value) (f : Nat × Nat), w.heap[b]? = some (.cells cs 34 f) → w'.heap[b]? = w.heap[b]?) : TP w' (fun _ => True) t v :=
  ht.keep fun b cs f _ hh => ⟨(hk b cs f hh).trans hh, trivial⟩
theorem PRow.far {w : World} {B : Nat} {v : Value} {ps : List (T × T)} (h : PRow w B v ps) {b : Nat} {cs : Array Value} {ty : TypeId} {f : Nat × Nat} (hb : w.heap[b]? = some (.cells cs ty f)) (hty : ty ≠ 69) : some b ≠ v.ownBlock := by
  obtain ⟨xs, hx, _⟩ := h
  intro e
  obtain ⟨c, fz, hh⟩ := Go.Lib.ownsRow_kind hx b e.symm
  rw [hh] at hb
  injection hb with hb
  injection hb with _ hb
  exact hty hb.symm
theorem PRow.push {w w1 w2 : World} {B : Nat} {v v' : Value} {ps : List (T × T)} {p : T × T} {xs : List Value} {k0 k1 : Int} {k2 : ByteArray} {A0 : Option Addr} {m0 c0 : Nat} {j0 j1 : Int} {j2 : ByteArray} {B0 : Option Addr} {n0 d0 : Nat}
    (hx : w.ownsRow B 69 8 v ps.length xs) (hp : ∀ q p, ps[q]? = some p → ∃ k0 k1 k2 A0 m0 c0 j0 j1 j2 B0 n0 d0, PCell w xs q p k0 k1 k2 A0 m0 c0 j0 j1 j2 B0 n0 d0) (hb : Below w.heap.size w w1)
    (ha : TP w1 (fun _ => True) p.1 (.agg #[.int .i64 k0, .int .i64 k1, .string k2, .slice A0 m0 c0])) (hbb : TP w1 (fun _ => True) p.2 (.agg #[.int .i64 j0, .int .i64 j1, .string j2, .slice B0 n0 d0]))
    (hown : w2.ownsRow B 69 8 v' (ps.length + 1) (xs ++ [.int .i64 k0, .int .i64 k1, .string k2, .slice A0 m0 c0, .int .i64 j0, .int .i64 j1, .string j2, .slice B0 n0 d0])) (hg : w1.grownBy w2 v.ownBlock) : PRow w2 B v' (ps ++ [p]) := by
  have far : ∀ (b : Nat) (cs : Array Value) (f : Nat × Nat), w1.heap[b]? = some (.cells cs 34 f) → w2.heap[b]? = w1.heap[b]? := fun b cs f hh => by
    refine hg.block b (heap_lt hh) fun e => ?_
    have h1 := own_below hx hb
    obtain ⟨c, fz, h2⟩ := Go.Lib.ownsRow_kind h1 b e.symm
    rw [h2] at hh
    injection hh with hh
    injection hh with _ hh
    exact absurd hh (by decide)
  have hl : xs.length = 8 * ps.length := by have := own_len hx; omega
  refine ⟨_, by rw [List.length_append]; exact hown, fun q p' hq => ?_⟩
  by_cases hqn : q < ps.length
  · rw [List.getElem?_append_left hqn] at hq
    obtain ⟨_, _, _, _, _, _, _, _, _, _, _, _, hc⟩ := hp q p' hq
    exact ⟨_, _, _, _, _, _, _, _, _, _, _, _, hc.keep (fun j hj => List.getElem?_append_left (by omega)) fun ht => (ht.below hb).row far⟩
  · rw [List.getElem?_append_right (by omega)] at hq
    have hq0 : q = ps.length := by
      rcases Nat.eq_zero_or_pos (q - ps.length) with h | h
      · omega
      · rw [List.getElem?_eq_none (by simp; omega)] at hq; cases hq
    subst hq0
    simp at hq
    subst hq
    have key : ∀ j, (xs ++ [.int .i64 k0, .int .i64 k1, .string k2, .slice A0 m0 c0, .int .i64 j0, .int .i64 j1, .string j2, .slice B0 n0 d0])[8 * ps.length + j]? = [.int .i64 k0, .int .i64 k1, .string k2, .slice A0 m0 c0, .int .i64 j0, .int .i64 j1, .string j2, Value.slice B0 n0 d0][j]? := fun j => by
      rw [List.getElem?_append_right (by omega), hl]
      congr 1
      omega
    exact ⟨k0, k1, k2, A0, m0, c0, j0, j1, j2, B0, n0, d0, by simpa using key 0, by simpa using key 1, by simpa using key 2, by simpa using key 3, by simpa using key 4, by simpa using key 5, by simpa using key 6, by simpa using key 7, ha.row far, hbb.row far⟩
theorem PRow.pop {w : World} {B : Nat} {g cap : Nat} {ps : List (T × T)} {p : T × T} (h : PRow w B (.slice (some ⟨g, 0, none⟩) (ps.length + 1) cap) (ps ++ [p])) : PRow w B (.slice (some ⟨g, 0, none⟩) ps.length cap) ps := by
  obtain ⟨xs, hx, hp⟩ := h
  rw [List.length_append] at hx
  have hl := own_len hx
  have e : xs = xs.take (ps.length * 8) ++ xs.drop (ps.length * 8) := (List.take_append_drop _ _).symm
  rw [e] at hx
  refine ⟨_, ownsRow_pop (by simp at hl ⊢; omega) hx, fun q p' hq => ?_⟩
  have hqn : q < ps.length := by
    rcases Nat.lt_or_ge q ps.length with h | h
    · exact h
    · rw [List.getElem?_eq_none h] at hq; cases hq
  obtain ⟨_, _, _, _, _, _, _, _, _, _, _, _, hc⟩ := hp q p' (by rw [List.getElem?_append_left hqn]; exact hq)
  exact ⟨_, _, _, _, _, _, _, _, _, _, _, _, hc.keep (fun j hj => by rw [List.getElem?_take, if_pos (by omega)]) fun ht => ht⟩
/-- A pair of a row, in memory. -/
theorem PRow.get {w : World} {B : Nat} {A : Option Addr} {n cap : Nat} {ps : List (T × T)} (h : PRow w B (.slice A n cap) ps) {q : Nat} {p : T × T} (hq : ps[q]? = some p) :
    ∃ (g : Nat) (k0 k1 : Int) (k2 : ByteArray) (A0 : Option Addr) (m0 c0 : Nat) (j0 j1 : Int) (j2 : ByteArray) (B0 : Option Addr) (n0 d0 : Nat), A = some ⟨g, 0, none⟩ ∧ g < w.heap.size ∧ w.cell? ⟨g, q * 8, none⟩ = some (.int .i64 k0) ∧ w.cell? ⟨g, q * 8 + 1, none⟩ = some (.int .i64 k1) ∧ w.cell? ⟨g, q * 8 + 2, none⟩ = some (.string k2) ∧ w.cell? ⟨g, q * 8 + 3, none⟩ = some (.slice A0 m0 c0) ∧
      w.cell? ⟨g, q * 8 + 4, none⟩ = some (.int .i64 j0) ∧ w.cell? ⟨g, q * 8 + 5, none⟩ = some (.int .i64 j1) ∧ w.cell? ⟨g, q * 8 + 6, none⟩ = some (.string j2) ∧ w.cell? ⟨g, q * 8 + 7, none⟩ = some (.slice B0 n0 d0) ∧
      TP w (fun _ => True) p.1 (.agg #[.int .i64 k0, .int .i64 k1, .string k2, .slice A0 m0 c0]) ∧ TP w (fun _ => True) p.2 (.agg #[.int .i64 j0, .int .i64 j1, .string j2, .slice B0 n0 d0]) := by
  obtain ⟨xs, hx, hp⟩ := h
  have hqn : q < ps.length := by
    rcases Nat.lt_or_ge q ps.length with h | h
    · exact h
    · rw [List.getElem?_eq_none h] at hq; cases hq
  obtain ⟨k0, k1, k2, A0, m0, c0, j0, j1, j2, B0, n0, d0, hc⟩ := hp q p hq
  obtain ⟨A', c', e, _, _, _, hcur⟩ := own_open hx
  injection e with e1 e2 e3
  subst e1
  obtain ⟨g, cur, rfl, _, hh, hcur⟩ := hcur (by omega)
  have key : ∀ j, j < 8 → w.cell? ⟨g, q * 8 + j, none⟩ = xs[8 * q + j]? := fun j hj => by
    rw [cell_of_row w g _ _ _ _ hh, hcur _ (by omega), Nat.mul_comm]
  exact ⟨g, k0, k1, k2, A0, m0, c0, j0, j1, j2, B0, n0, d0, rfl, heap_lt hh, (key 0 (by omega)).trans hc.a0, (key 1 (by omega)).trans hc.a1, (key 2 (by omega)).trans hc.a2, (key 3 (by omega)).trans hc.a3, (key 4 (by omega)).trans hc.b0, (key 5 (by omega)).trans hc.b1, (key 6 (by omega)).trans hc.b2, (key 7 (by omega)).trans hc.b3, hc.ta, hc.tb⟩
/-- A new binding. -/
theorem EnvP.store {w : World} {eb mb N : Nat} {L : Bs} (h : EnvP w eb mb N L) {n : Int} {t : T} {v : Value} (hn : findB L n = none) (h0 : 0 ≤ n) (h1 : n < 1000) (ht : t.ok) (hno : ¬ Reach L n t) (hv : TP w (fun _ => True) t v) (hN : N + 1 ≤ 1000000) :
    ∃ w', (Instr.mapUpdate 62 (.map (some mb)) (.int .i64 n) v).run Try.prog w = .ok () w' ∧ EnvP w' eb mb (N + 1) (L ++ [(n, t)]) ∧ But mb w w' := by
  obtain ⟨M, hM, hL⟩ := h.map
  obtain ⟨w', hrun, hM', htu⟩ := hM.store Try.underlying62 (by unfold maxLen; omega) (i := n) ⟨by omega, by omega⟩ v
  have hbut := But.turned htu
  refine ⟨w', hrun, ⟨hbut.cells hM.is h.blk, hN, ⟨_, hM', fun i => ?_⟩, h.ok.bind hn h0 h1 ht hno⟩, hbut⟩
  rw [findB_append]
  obtain ⟨l1, l2⟩ := hL i
  cases hf : findB L i with
  | some x =>
    refine ⟨(fun h => by cases h), fun t' ht' => ?_⟩
    injection ht' with ht'
    subst ht'
    obtain ⟨u, hu, hut⟩ := l2 x hf
    have hne : i ≠ n := fun e => by rw [e, hn] at hf; cases hf
    exact ⟨u, by simp [putI, hne, hu], hut.but hbut hM.is⟩
  | none =>
    by_cases hin : n = i
    · subst hin
      refine ⟨fun h => by simp at h, fun t' ht' => ?_⟩
      simp at ht'
      subst ht'
      exact ⟨v, by simp [putI], hv.but hbut hM.is⟩
    · refine ⟨fun _ => ?_, fun t' ht' => by simp [hin] at ht'⟩
      have hne : i ≠ n := fun e => hin e.symm
      simp [putI, hne, l1 hf]
end Go.Proofs.Ytjjkigphfijnbaa
