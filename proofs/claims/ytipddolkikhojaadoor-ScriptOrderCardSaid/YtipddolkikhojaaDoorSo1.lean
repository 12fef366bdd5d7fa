/- A given []string as a list of texts, wherever it lies (turned out of tplw's XWr0, XOpenT for the Script seat). -/
import Derived.Test.YtipddolkikhojaaDoorSo0
import Derived.Deep.Slices
import Derived.ChangeSame
import Derived.OpenShut
import Derived.SliceStrings
namespace Go.Proofs.YtipddolkikhojaaDoor
open Go Go.ChangeShapes Go.WideShapes Go.RowKit
set_option linter.unusedVariables false
/-- A row of names, anywhere below a bound. -/
def NmIn (w : World) (S : Nat) (nm : List ByteArray) (v : Value) : Prop :=
  ∃ A c, v = .slice A nm.length c ∧ (0 < nm.length → ∃ g o, A = some ⟨g, o, none⟩ ∧ g < S ∧ ∀ (i : Nat) (h : i < nm.length), w.cell? ⟨g, o + i, none⟩ = some (.string (nm[i]'h)))
theorem NmIn.low {w w' : World} {S B : Nat} {nm : List ByteArray} {v : Value} (h : NmIn w S nm v) (hS : S ≤ B) (hb : Below B w w') : NmIn w' S nm v := by
  obtain ⟨A, c, e, hx⟩ := h
  refine ⟨A, c, e, fun h0 => ?_⟩
  obtain ⟨g, o, e1, h1, h2⟩ := hx h0
  exact ⟨g, o, e1, h1, fun i hi => (hb.cell (p := ⟨g, o + i, none⟩) (by show g < B; omega)).trans (h2 i hi)⟩
theorem NmIn.none (w : World) (S : Nat) : NmIn w S [] (.slice none 0 0) := ⟨_, _, rfl, fun h => absurd h (by simp)⟩
theorem open_names {H : Type} {enc : TypeId × Value → H} {w : World} {base : Nat} {spare : Nat → Bool} {held : Bool} {fuel : Nat} {A : Option Addr} {len cap : Nat} {x : DataW H × List MemPlace}
    (h : DataW.trod enc Tryd.prog w base spare held fuel 31 [.slice A len cap] = some x) :
    ∃ nm : List ByteArray, NmIn w w.heap.size nm (.slice A len cap) ∧ (nm.length : Int) ≤ 9223372036854775807 := by
  rcases Go.ChangeShapes.open_strings Tryd.underlying31 Tryd.underlying9 (by kernel_rfl) h with ⟨hcs, _⟩ | ⟨a, l, c, ss, hcs, _, hl, hm, hz, _, hcell, _⟩
  · simp at hcs
    obtain ⟨rfl, rfl, rfl⟩ := hcs
    exact ⟨[], ⟨none, 0, rfl, fun h => absurd h (by simp)⟩, by simp⟩
  · simp at hcs
    obtain ⟨rfl, rfl, rfl⟩ := hcs
    have hle : len ≤ ss.length := by rw [hz]; split <;> omega
    have hlen : (ss.take len).length = len := by simp [hle]
    have hmx : (maxLen : Int) ≤ 9223372036854775807 := by decide
    refine ⟨ss.take len, ⟨some a, cap, by rw [hlen], fun h0 => ?_⟩, by rw [hlen]; omega⟩
    rw [hlen] at h0
    obtain ⟨b, off, spot⟩ := a
    have z0 := hcell 0 (by omega)
    have hspot : spot = none := by simpa [Addr.add] using World.cell?_spot z0
    subst hspot
    have hlt : b < w.heap.size := by
      rw [Go.WideShapes.add_plain] at z0
      rcases Nat.lt_or_ge b w.heap.size with hlt | hge
      · exact hlt
      · simp [World.cell?, Array.getElem?_eq_none hge] at z0
    refine ⟨b, off, rfl, hlt, fun i hi => ?_⟩
    have hi' : i < len := by rw [← hlen]; exact hi
    have z := hcell i (by omega)
    rw [Go.WideShapes.add_plain] at z
    rw [z, List.getElem_take, List.getD_eq_getElem?_getD, List.getElem?_eq_getElem (by omega)]
    rfl
end Go.Proofs.YtipddolkikhojaaDoor
