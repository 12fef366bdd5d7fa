/- What a row's list gives the walks of reading: the table of operators, listed as data. -/
import Derived.Test.YtlogcealmiokkaaGreatDoorKGu
import Derived.Test.YtlogcealmiokkaaGreatDoorKRq4
import Derived.ProofKit
import Derived.OpenShut
import Derived.ShutString
import Derived.LaidLaws
import Derived.ChangeArms
namespace Go.Proofs.YtlogcealmiokkaaGreatDoor
open Go Go.ChangeShapes Go.WideShapes Go.RowKit

def rowD (r : OpRow) : DataW Unit := .agg [.lit (.string r.1), .lit (.string r.2.1), .lit (.int .i64 r.2.2)]
theorem agg_inj {a b : List (DataW Unit)} {p q : List MemPlace} (h : (DataW.agg a, p) = (DataW.agg b, q)) : a = b := by
  injection h with h _
  injection h
set_option maxRecDepth 100000 in
theorem ops_of {W : World} {rest : List (String × DataW Unit)} (h : laidMet Tryz.prog (("coney/ops.table", (.agg (opRows.map rowD) : DataW Unit)) :: rest) W) : TableX W := by
  obtain ⟨ps, ⟨g', t', cs, fuel, p, q, hg', ht', hvar, hd, _, _⟩, _⟩ := h
  obtain rfl := Option.some.inj ((show Tryz.prog.globalNamed "coney/ops.table" = some 0 by kernel_rfl).symm.trans hg')
  obtain rfl := Option.some.inj ((show (Tryz.prog.globals[0]?).map (·.type) = some 109 by kernel_rfl).symm.trans ht')
  have ce : Tryz.prog.cellsOf 108 = 3 := by kernel_rfl
  have c1 : Tryz.prog.cellsOf 9 = 1 := by kernel_rfl
  have c2 : Tryz.prog.cellsOf 3 = 1 := by kernel_rfl
  obtain ⟨xs, m, _, hx, _, hxl, hat⟩ := DataW.trod_array Tryz.underlying109 hd
  have hx := agg_inj hx
  intro i n k v hi
  have hil : i < 42 := by rw [← rows_len]; exact (List.getElem?_eq_some_iff.1 hi).1
  have h1 := hat i hil
  have h2 : xs[i]?.map (·.1) = some (rowD (n, k, v)) := by rw [← List.getElem?_map, ← hx, List.getElem?_map, hi]; rfl
  obtain ⟨y, hy, hy2⟩ := Option.map_eq_some_iff.1 h2
  rw [hy, ce] at h1
  obtain ⟨ys, m', _, hz, hzl, hyl, hf⟩ := DataW.trod_struct Tryz.underlying108 h1
  rw [ce] at hzl
  obtain ⟨c, hc⟩ : ∃ c, (cs.toList.drop (i * 3)).take 3 = c := ⟨_, rfl⟩
  rw [hc] at hzl hf
  match c, hzl, hc with
  | [v0, v1, v2], _, hc =>
    have g0 := hf 0 _ rfl
    have g1 := hf 1 _ rfl
    have g2 := hf 2 _ rfl
    simp [c1, c2] at g0 g1 g2
    have hy4 : ys.length = 3 := hyl
    rw [List.getElem?_eq_getElem (by omega)] at g0 g1 g2
    obtain ⟨s0, e0, z0, _⟩ := DataW.trod_string Tryz.underlying9 g0
    obtain ⟨s1, e1, z1, _⟩ := DataW.trod_string Tryz.underlying9 g1
    obtain ⟨n2, e2, z2, _⟩ := DataW.trod_int Tryz.underlying3 g2
    simp at e0 e1 e2
    subst e0 e1 e2
    have hl : ys.map (·.1) = [.lit (.string n), .lit (.string k), .lit (.int .i64 v)] := by
      have e := congrArg Prod.fst hz
      rw [hy2] at e
      injection e with e
      exact e.symm
    have y3 : ys = [ys[0], ys[1], ys[2]] := by
      apply List.ext_getElem (by simp; omega)
      intro q h1 h2
      rcases q with _ | _ | _ | q
      · rfl
      · rfl
      · rfl
      · simp only [List.length_cons, List.length_nil] at h2; omega
    rw [y3] at hl
    simp only [List.map_cons, List.map_nil, z0, z1, z2, List.cons.injEq, DataW.lit.injEq, Lit.string.injEq, Lit.int.injEq, and_true, true_and] at hl
    obtain ⟨rfl, rfl, rfl⟩ := hl
    have at_ : ∀ j, j < 3 → cs[i * 3 + j]? = [Value.string s0, .string s1, .int .i64 n2][j]? := fun j hj => by
      rw [← hc, List.getElem?_take_of_lt hj, List.getElem?_drop, Array.getElem?_toList]
    have b : ∀ s : ByteArray, ba s.data.toList = s := fun s => by apply ByteArray.ext; simp [ba]
    rw [b, b]
    exact ⟨(World.var?_cell hg' hvar (i * 3)).trans (at_ 0 (by omega)), (World.var?_cell hg' hvar (i * 3 + 1)).trans (at_ 1 (by omega)), (World.var?_cell hg' hvar (i * 3 + 2)).trans (at_ 2 (by omega))⟩
set_option maxRecDepth 100000 in
theorem open_uin {H : Type} {enc : TypeId × Value → H} {w : World} {base : Nat} {spare : Nat → Bool} {held : Bool} {fuel : Nat} {A : Option Addr} {len cap : Nat} {x : DataW H × List MemPlace}
    (h : DataW.trod enc Tryz.prog w base spare held fuel 42 [.slice A len cap] = some x) :
    ∃ l : List Int, UIn w w.heap.size l (.slice A len cap) ∧ (∀ x ∈ l, 0 ≤ x ∧ x < 256) ∧ (l.length : Int) ≤ 9223372036854775807 := by
  rcases Go.ChangeShapes.open_ints Tryz.underlying42 Tryz.underlying5 (by kernel_rfl) h with ⟨hcs, _⟩ | ⟨a, ln, c, zs, hcs, _, hl, hm, hz, _, hcell, hwf⟩
  · simp at hcs
    obtain ⟨rfl, rfl, rfl⟩ := hcs
    exact ⟨[], ⟨none, 0, rfl, fun h => absurd h (by simp)⟩, fun _ h => (by cases h), by simp⟩
  · simp at hcs
    obtain ⟨rfl, rfl, rfl⟩ := hcs
    have hle : len ≤ zs.length := by rw [hz]; split <;> omega
    have hlen : (zs.take len).length = len := by simp [hle]
    have hmx : (maxLen : Int) ≤ 9223372036854775807 := by decide
    refine ⟨zs.take len, ⟨some a, cap, by rw [hlen], fun h0 => ?_⟩, fun x hx => ?_, by rw [hlen]; omega⟩
    · rw [hlen] at h0
      obtain ⟨b, off, spot⟩ := a
      have z0 := hcell 0 (by omega)
      have hspot : spot = none := by simpa [Addr.add] using World.cell?_spot z0
      subst hspot
      have hlt : b < w.heap.size := by
        rw [Go.WideShapes.add_plain] at z0
        rcases Nat.lt_or_ge b w.heap.size with hlt | hge
        · exact hlt
        · simp [World.cell?, Array.getElem?_eq_none hge] at z0
      refine ⟨b, off, rfl, hlt, fun i x hi => ?_⟩
      have hi' : i < len := by rw [← hlen]; exact (List.getElem?_eq_some_iff.1 hi).1
      have z := hcell i (by omega)
      rw [Go.WideShapes.add_plain] at z
      rw [List.getElem?_take_of_lt hi'] at hi
      rw [z, List.getD_eq_getElem?_getD, hi]
      rfl
    · have b := bounds_u8 (hwf x (List.mem_of_mem_take hx))
      exact ⟨by omega, by omega⟩
end Go.Proofs.YtlogcealmiokkaaGreatDoor
