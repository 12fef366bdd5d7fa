/- Bits on rows of integers and on terms' arguments. -/
import Derived.Test.YtlgeepjlnjlgdaaUni0
import Derived.Test.YtlgeepjlnjlgdaaRd3
import Derived.Deep.QuietTactic
import Derived.BigQuiet
namespace Go.Proofs.Ytlgeepjlnjlgdaa
open Go.RowKit

/-- A list of different numbers below n is no longer than n. -/
theorem nodup_few : ∀ (n : Nat) (l : List Int), l.Nodup → (∀ i ∈ l, 0 ≤ i ∧ i < (n : Int)) → l.length ≤ n := by
  intro n
  induction n with
  | zero =>
    intro l _ h
    cases l with
    | nil => simp
    | cons a l => have := h a List.mem_cons_self; omega
  | succ n ih =>
    intro l hl h
    have h1 := ih (l.erase (n : Int)) (hl.erase _) fun i hi => by
      have h2 := h i (List.mem_of_mem_erase hi)
      have h3 : i ≠ (n : Int) := fun e => by rw [e] at hi; exact (hl.not_mem_erase hi)
      omega
    have := List.length_erase (a := (n : Int)) (l := l)
    split at this <;> omega
theorem belA {w w1 : World} (h : Below w.heap.size w w1) (o : Obj) : Below w.heap.size w (w1.alloc o) := h.alloc h.size o
theorem bel_drewN {B : Nat} {w w1 : World} (h : Below B w w1) (n : Nat) : Below B w (w1.drewN n) := ⟨h.os, h.tape, h.output, h.size, h.block⟩
theorem Try.info_int8 : (Try.prog.info? 3).map (fun i => (i.zero, i.size, i.bytes)) = some (some (.int .i64 0), 1, 8) := by kernel_rfl
theorem elInt8 : El Try.prog 29 3 (.int .i64 0) 1 8 := by
  obtain ⟨i0, hi, hz0, hz1, hz2⟩ := info_parts Try.info_int8
  exact ⟨Try.underlying29, ⟨i0, hi, hz0, hz1, hz2⟩, rfl, by omega⟩
/-- A row of integers. -/
def IRow (w : World) (v : Value) (ns : List Int) : Prop := w.ownsRow 0 3 1 v ns.length (ns.map (Value.int .i64))
theorem IRow.below {w w' : World} {v : Value} {ns : List Int} (h : IRow w v ns) (hb : Below w.heap.size w w') : IRow w' v ns := own_below h hb
theorem IRow.nil (w : World) : IRow w (.slice none 0 0) [] := World.ownsRow_nil _ _ _ _
theorem IRow.open_ {w : World} {v : Value} {ns : List Int} (h : IRow w v ns) : ∃ A c, v = .slice A ns.length c ∧ ns.length ≤ c ∧ (A = none → c = 0) ∧ ∀ i x, ns[i]? = some x → ∃ g, A = some ⟨g, 0, none⟩ ∧ g < w.heap.size ∧ w.cell? ⟨g, i, none⟩ = some (.int .i64 x) := by
  obtain ⟨A, c, e, h1, h2, _, h3⟩ := own_open h
  refine ⟨A, c, e, h1, h2, fun i x hx => ?_⟩
  have hi : i < ns.length := by
    rcases Nat.lt_or_ge i ns.length with h | h
    · exact h
    · rw [List.getElem?_eq_none h] at hx; cases hx
  obtain ⟨g, cur, rfl, _, hh, hc⟩ := h3 (by omega)
  exact ⟨g, rfl, heap_lt hh, (cell_of_row w g i _ _ _ hh).trans ((hc i (by omega)).trans (by simp [hx]))⟩
/-- A term's arguments, by its blocks. -/
theorem TP.args {w : World} {S : Nat → Prop} {k n : Int} {s : ByteArray} {m : Nat} {a : Nat → T} {v0 v1 v2 : Value} {A : Option Addr} {m' c : Nat} (h : TP w S (.mk k n s m a) (.agg #[v0, v1, v2, .slice A m' c])) :
    v0 = .int .i64 k ∧ v1 = .int .i64 n ∧ v2 = .string s ∧ m' = m ∧ m ≤ c ∧ (A = none → c = 0) ∧ ∀ i, i < m → ∃ (b : Nat) (k0 k1 : Int) (k2 : ByteArray) (A0 : Option Addr) (m0 c0 : Nat), A = some ⟨b, 0, none⟩ ∧ S b ∧ b < w.heap.size ∧ w.cell? ⟨b, i * 4, none⟩ = some (.int .i64 k0) ∧ w.cell? ⟨b, i * 4 + 1, none⟩ = some (.int .i64 k1) ∧
      w.cell? ⟨b, i * 4 + 2, none⟩ = some (.string k2) ∧ w.cell? ⟨b, i * 4 + 3, none⟩ = some (.slice A0 m0 c0) ∧ TP w S (a i) (.agg #[.int .i64 k0, .int .i64 k1, .string k2, .slice A0 m0 c0]) := by
  obtain ⟨A', c', e, hmc, hA, hx⟩ := h
  injection e with e
  simp only [Array.mk.injEq, List.cons.injEq, and_true] at e
  obtain ⟨rfl, rfl, rfl, e⟩ := e
  injection e with e1 e2 e3
  subst e1; subst e2; subst e3
  refine ⟨rfl, rfl, rfl, rfl, hmc, hA, fun i hi => ?_⟩
  obtain ⟨b, cs, f, rfl, hS, hb, hc⟩ := hx (by omega)
  obtain ⟨v0, v1, v2, v3, c0, c1, c2, c3, ht⟩ := hc i hi
  obtain ⟨k0, k1, k2, A0, m0, c0', he⟩ := ht.agg
  injection he with he
  simp only [Array.mk.injEq, List.cons.injEq, and_true] at he
  obtain ⟨rfl, rfl, rfl, rfl⟩ := he
  have hr := fun (j : Nat) => cell_of_row w b j _ _ _ hb
  rw [Nat.mul_comm 4 i] at c0 c1 c2 c3
  exact ⟨b, k0, k1, k2, A0, m0, c0', rfl, hS, heap_lt hb, (hr _).trans c0, (hr _).trans c1, (hr _).trans c2, (hr _).trans c3, ht⟩
end Go.Proofs.Ytlgeepjlnjlgdaa
