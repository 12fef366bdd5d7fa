/- A term that a law is given, opened. -/
import Derived.Test.YtiefbdblefliaaaDoorWr0
import Derived.Deep.Slices
import Derived.ChangeSame
import Derived.OpenShut
import Derived.SliceStrings
namespace Go.Proofs.YtiefbdblefliaaaDoor
open Go.RowKit

/-- A term's numbers fit. -/
def T.i64 : T → Prop
  | .nil => True
  | .mk _ n _ m a => I64 n ∧ ∀ i, i < m → (a i).i64
set_option maxRecDepth 100000 in
theorem open_term {H : Type} {enc : TypeId × Value → H} {w : World} {base : Nat} {spare : Nat → Bool} {held : Bool} : ∀ (fuel : Nat) (cs : List Value) (x : DataW H × List MemPlace), DataW.trod enc Tryd.prog w base spare held fuel 24 cs = some x →
    ∃ (k n : Int) (s : ByteArray) (A : Option Addr) (m c : Nat) (t : T), cs = [.int .i64 k, .int .i64 n, .string s, .slice A m c] ∧ TIn w w.heap.size t (.agg #[.int .i64 k, .int .i64 n, .string s, .slice A m c]) ∧ t.i64 := by
  have ce : Tryd.prog.cellsOf 24 = 4 := by kernel_rfl
  have ci : Tryd.prog.cellsOf 3 = 1 := by kernel_rfl
  have cs1 : Tryd.prog.cellsOf 9 = 1 := by kernel_rfl
  have csl : Tryd.prog.cellsOf 22 = 1 := by kernel_rfl
  intro fuel
  induction fuel using Nat.strongRecOn with
  | ind fuel ih =>
    intro cs x h
    obtain ⟨xs, k, hk, hxy, hcl, hxl, hf⟩ := DataW.trod_struct Tryd.underlying24 h
    rw [ce] at hcl
    match cs, hcl with
    | [v0, v1, v2, v3], _ =>
      have g0 := hf 0 _ rfl
      have g1 := hf 1 _ rfl
      have g2 := hf 2 _ rfl
      have g3 := hf 3 _ rfl
      simp [ci, cs1, csl] at g0 g1 g2 g3
      have hx4 : xs.length = 4 := hxl
      rw [List.getElem?_eq_getElem (by omega)] at g0 g1 g2 g3
      obtain ⟨n0, e0, _, w0⟩ := DataW.trod_int Tryd.underlying3 g0
      obtain ⟨n1, e1, _, w1⟩ := DataW.trod_int Tryd.underlying3 g1
      obtain ⟨s2, e2, _, _⟩ := DataW.trod_string Tryd.underlying9 g2
      simp at e0 e1 e2
      subst e0; subst e1; subst e2
      have b1 := bounds_i64 w1
      have i1 : I64 n1 := ⟨by omega, by omega⟩
      rcases DataW.trod_slice Tryd.underlying22 g3 with ⟨e3, _⟩ | ⟨a, len, cap, elems, rest, n, hn, e3, _, _, hlc, hcm, hel, hx, _⟩
      · simp at e3
        subst e3
        exact ⟨n0, n1, s2, none, 0, 0, .mk n0 n1 s2 0 fun _ => .nil, rfl, ⟨none, 0, rfl, Nat.le_refl _, fun _ => rfl, fun h => absurd h (by simp)⟩, i1, fun i h => absurd h (by simp)⟩
      · simp at e3
        subst e3
        have each : ∀ i, i < len → ∃ t : T, (∃ (u0 u1 u2 u3 : Value), w.cell? (a.add (i * 4)) = some u0 ∧ w.cell? (a.add (i * 4 + 1)) = some u1 ∧ w.cell? (a.add (i * 4 + 2)) = some u2 ∧ w.cell? (a.add (i * 4 + 3)) = some u3 ∧ TIn w w.heap.size t (.agg #[u0, u1, u2, u3])) ∧ t.i64 := by
          intro i hi
          have hb := hx i hi
          rw [List.getElem?_eq_getElem (by omega), ce] at hb
          obtain ⟨cs', h1, h2⟩ := Option.bind_eq_some_iff.1 hb
          obtain ⟨_, hlen, hcell⟩ := World.cells?_some h1
          obtain ⟨k', n', s', A', m', c', t, rfl, ht, hi64⟩ := ih n (by omega) cs' _ h2
          have f0 := hcell 0 (by omega)
          have f1 := hcell 1 (by omega)
          have f2 := hcell 2 (by omega)
          have f3 := hcell 3 (by omega)
          rw [Go.Deep.add_add] at f0 f1 f2 f3
          exact ⟨t, ⟨_, _, _, _, by simpa using f0, by simpa using f1, by simpa using f2, by simpa using f3, ht⟩, hi64⟩
        haveI : Inhabited T := ⟨.nil⟩
        obtain ⟨q, hq⟩ := Go.Deep.choose_lt each
        refine ⟨n0, n1, s2, some a, len, cap, .mk n0 n1 s2 len q, rfl, ⟨some a, cap, rfl, hlc, (fun h => by cases h), fun h0 => ?_⟩, i1, fun i hi => (hq i hi).2⟩
        obtain ⟨b, off, spot⟩ := a
        obtain ⟨_, _, _, _, z0, _⟩ := (hq 0 h0).1
        have hspot : spot = none := by simpa [Addr.add] using World.cell?_spot z0
        subst hspot
        have hlt : b < w.heap.size := by
          rw [Go.WideShapes.add_plain] at z0
          rcases Nat.lt_or_ge b w.heap.size with hlt | hge
          · exact hlt
          · simp [World.cell?, Array.getElem?_eq_none hge] at z0
        refine ⟨b, off, rfl, hlt, fun i hi => ?_⟩
        obtain ⟨u0, u1, u2, u3, z0, z1, z2, z3, ht⟩ := (hq i hi).1
        rw [Go.WideShapes.add_plain] at z0 z1 z2 z3
        rw [Nat.mul_comm 4 i]
        exact ⟨u0, u1, u2, u3, z0, by rw [Nat.add_assoc]; exact z1, by rw [Nat.add_assoc]; exact z2, by rw [Nat.add_assoc]; exact z3, ht⟩
set_option maxRecDepth 100000 in
theorem open_names {H : Type} {enc : TypeId × Value → H} {w : World} {base : Nat} {spare : Nat → Bool} {held : Bool} {fuel : Nat} {A : Option Addr} {len cap : Nat} {x : DataW H × List MemPlace}
    (h : DataW.trod enc Tryd.prog w base spare held fuel 25 [.slice A len cap] = some x) :
    ∃ nm : List ByteArray, NmIn w w.heap.size nm (.slice A len cap) ∧ (nm.length : Int) ≤ 9223372036854775807 := by
  rcases Go.ChangeShapes.open_strings Tryd.underlying25 Tryd.underlying9 (by kernel_rfl) h with ⟨hcs, _⟩ | ⟨a, l, c, ss, hcs, _, hl, hm, hz, _, hcell, _⟩
  · simp at hcs
    obtain ⟨rfl, rfl, rfl⟩ := hcs
    exact ⟨[], ⟨none, 0, rfl, fun h => absurd h (by simp)⟩, by simp⟩
  · simp at hcs
    obtain ⟨rfl, rfl, rfl⟩ := hcs
    have hle : len ≤ ss.length := by rw [hz]; split <;> omega
    have hlen : (ss.take len).length = len := by simp [hle]
    have hmx : (maxLen : Int) ≤ 9223372036854775807 := by decide
    refine ⟨ss.take len, ⟨some a, cap, by rw [hlen], fun h0 => ?_⟩, by rw [hlen]; omega⟩
    rw [hlen] at h0
    obtain ⟨b, off, spot⟩ := a
    have z0 := hcell 0 (by omega)
    have hspot : spot = none := by simpa [Addr.add] using World.cell?_spot z0
    subst hspot
    have hlt : b < w.heap.size := by
      rw [Go.WideShapes.add_plain] at z0
      rcases Nat.lt_or_ge b w.heap.size with hlt | hge
      · exact hlt
      · simp [World.cell?, Array.getElem?_eq_none hge] at z0
    refine ⟨b, off, rfl, hlt, fun i hi => ?_⟩
    have hi' : i < len := by rw [← hlen]; exact hi
    have z := hcell i (by omega)
    rw [Go.WideShapes.add_plain] at z
    rw [z, List.getElem_take, List.getD_eq_getElem?_getD, List.getElem?_eq_getElem (by omega)]
    rfl
end Go.Proofs.YtiefbdblefliaaaDoor
