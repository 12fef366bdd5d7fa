/- What the row's list gives the walk of ScriptHears: the table of kinds. -/
import Derived.Test.YtlojlgcnhacleaaDoorCwHears
import Derived.ProofKit
import Derived.OpenShut
import Derived.ShutString
import Derived.LaidLaws
import Derived.ChangeArms
namespace Go.Proofs.YtlojlgcnhacleaaDoor
open Go Go.ChangeShapes Go.WideShapes Go.RowKit

theorem agg_inj {a b : List (DataW Unit)} {p q : List MemPlace} (h : (DataW.agg a, p) = (DataW.agg b, q)) : a = b := by
  injection h with h _
  injection h
/-- A kind's word, as a datum. -/
def kindD (n : Nat) : DataW Unit := .lit (.string (kindL n))
set_option maxRecDepth 100000 in
theorem kinds_of {W : World} {rest : List (String × DataW Unit)} (h : laidMet Tryd.prog (("coney/script.kinds", (.agg ((List.range 9).map kindD) : DataW Unit)) :: rest) W) : KindsX W := by
  obtain ⟨ps, ⟨g', t', cs, fuel, p, q, hg', ht', hvar, hd, _, _⟩, _⟩ := h
  obtain rfl := Option.some.inj ((show Tryd.prog.globalNamed "coney/script.kinds" = some 0 by kernel_rfl).symm.trans hg')
  obtain rfl := Option.some.inj ((show (Tryd.prog.globals[0]?).map (·.type) = some 41 by kernel_rfl).symm.trans ht')
  have ce : Tryd.prog.cellsOf 9 = 1 := by kernel_rfl
  obtain ⟨xs, m, _, hx, _, hxl, hat⟩ := DataW.trod_array Tryd.underlying41 hd
  have hx := agg_inj hx
  intro n hn
  have h1 := hat n hn
  have h2 : xs[n]?.map (·.1) = some (kindD n) := by rw [← List.getElem?_map, ← hx, List.getElem?_map, List.getElem?_range hn]; rfl
  obtain ⟨y, hy, hy2⟩ := Option.map_eq_some_iff.1 h2
  rw [hy, ce, Nat.mul_one] at h1
  obtain ⟨s0, e0, z0, _⟩ := DataW.trod_string Tryd.underlying9 h1
  have e1 : kindD n = .lit (.string s0.data.toList) := by rw [← hy2, z0]
  have e2 : kindL n = s0.data.toList := by
    unfold kindD at e1
    injection e1 with e1
    injection e1
  have hc : cs[n]? = some (.string s0) := by
    have h3 : ((cs.toList.drop n).take 1)[0]? = some (.string s0) := by rw [e0]; rfl
    rw [List.getElem?_take_of_lt (by omega), List.getElem?_drop, Nat.add_zero, Array.getElem?_toList] at h3
    exact h3
  rw [e2, show ba s0.data.toList = s0 by apply ByteArray.ext; simp [ba]]
  exact (World.var?_cell hg' hvar n).trans hc
end Go.Proofs.YtlojlgcnhacleaaDoor
