/- A row of instructions that a law is given, opened. -/
import Derived.Test.YtlgeepjlnjlgdaaDoorEI
import Derived.Deep.Slices
import Derived.ChangeSame
import Derived.OpenShut
namespace Go.Proofs.YtlgeepjlnjlgdaaDoor
open Go.RowKit
instance : Inhabited Ins := ⟨⟨0, 0, ⟨#[]⟩⟩⟩
theorem max_few : (maxLen : Int) ≤ 9223372036854775807 := by decide
set_option maxRecDepth 100000 in
theorem open_ins {H : Type} {enc : TypeId × Value → H} {w : World} {base : Nat} {spare : Nat → Bool} {held : Bool} {fuel : Nat} {A : Option Addr} {len cap : Nat} {x : DataW H × List MemPlace}
    (h : DataW.trod enc Tryd.prog w base spare held fuel 27 [.slice A len cap] = some x) :
    ∃ l : List Ins, GRw w w.heap.size (.slice A len cap) l ∧ (l.length : Int) ≤ 9223372036854775807 ∧ ∀ x ∈ l, I64 x.a := by
  have ce : Tryd.prog.cellsOf 50 = 3 := by kernel_rfl
  have ci : Tryd.prog.cellsOf 3 = 1 := by kernel_rfl
  have cs1 : Tryd.prog.cellsOf 9 = 1 := by kernel_rfl
  rcases Go.Deep.open_slice Tryd.underlying27 h with ⟨h0, _⟩ | ⟨a, l, c, m, n, D, Pl, h0, hb, hl, hm, hmm, _, hx⟩
  · simp at h0
    obtain ⟨rfl, rfl, rfl⟩ := h0
    exact ⟨[], ⟨none, 0, rfl, fun h => absurd h (by simp)⟩, by simp, fun _ h => by cases h⟩
  · simp at h0
    obtain ⟨rfl, rfl, rfl⟩ := h0
    have hlm : len ≤ m := by rw [hmm]; split <;> omega
    have each : ∀ i, i < m → ∃ q : Ins, w.cell? (a.add (i * 3)) = some (.int .i64 q.o) ∧ w.cell? (a.add (i * 3 + 1)) = some (.int .i64 q.a) ∧ w.cell? (a.add (i * 3 + 2)) = some (.string q.s) ∧ I64 q.a := by
      intro i hi
      obtain ⟨cs', h1, h2⟩ := hx i hi
      rw [ce] at h1
      obtain ⟨_, hlen, hcell⟩ := World.cells?_some h1
      obtain ⟨xs, k, hk, hxy, _, hxl, hf⟩ := DataW.trod_struct Tryd.underlying50 h2
      match cs', hlen with
      | [v0, v1, v2], _ =>
        have g0 := hf 0 _ rfl
        have g1 := hf 1 _ rfl
        have g2 := hf 2 _ rfl
        simp [ci, cs1] at g0 g1 g2
        have hx3 : xs.length = 3 := hxl
        rw [List.getElem?_eq_getElem (by omega)] at g0 g1 g2
        obtain ⟨n0, e0, _, w0⟩ := DataW.trod_int Tryd.underlying3 g0
        obtain ⟨n1, e1, _, w1⟩ := DataW.trod_int Tryd.underlying3 g1
        obtain ⟨s2, e2, _, _⟩ := DataW.trod_string Tryd.underlying9 g2
        simp at e0 e1 e2
        subst e0; subst e1; subst e2
        have f0 := hcell 0 (by omega)
        have f1 := hcell 1 (by omega)
        have f2 := hcell 2 (by omega)
        rw [Go.Deep.add_add] at f0 f1 f2
        have b1 := bounds_i64 w1
        have i1 : I64 n1 := ⟨by omega, by omega⟩
        exact ⟨⟨n0, n1, s2⟩, by simpa using f0, by simpa using f1, by simpa using f2, i1⟩
    obtain ⟨q, hq⟩ := Go.Deep.choose_lt each
    have hll : ((List.range len).map q).length = len := by simp
    refine ⟨(List.range len).map q, ⟨some a, cap, by rw [hll], fun h0 => ?_⟩, by have := max_few; rw [hll]; omega, fun x hx => ?_⟩
    · rw [hll] at h0
      obtain ⟨b, off, spot⟩ := a
      have hspot : spot = none := by simpa [Addr.add] using World.cell?_spot (hq 0 (by omega)).1
      subst hspot
      have hlt : b < w.heap.size := by
        have h1 := (hq 0 (by omega)).1
        rw [Go.WideShapes.add_plain] at h1
        rcases Nat.lt_or_ge b w.heap.size with hlt | hge
        · exact hlt
        · simp [World.cell?, Array.getElem?_eq_none hge] at h1
      refine ⟨b, off, rfl, hlt, hlt, fun i hi j hj => ?_⟩
      obtain ⟨h1, h2, h3, _⟩ := hq i (by omega)
      rw [Go.WideShapes.add_plain] at h1 h2 h3
      have e : ((List.range len).map q)[i]'hi = q i := by simp
      rw [e]
      rcases j with _ | _ | _ | j
      · exact h1
      · rw [Nat.add_assoc]; exact h2
      · rw [Nat.add_assoc]; exact h3
      · omega
    · obtain ⟨i, hi, rfl⟩ := List.mem_map.1 hx
      exact (hq i (by have := List.mem_range.1 hi; omega)).2.2.2
end Go.Proofs.YtlgeepjlnjlgdaaDoor
