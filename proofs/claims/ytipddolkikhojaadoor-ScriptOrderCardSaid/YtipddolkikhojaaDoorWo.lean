/- WHAT A ROW's LIST AND ITS PARAMETERS GIVE THE SCRIPT's WALKS: the four words of the table ('coney/script.words', listed as data), and the structs Limits (four numbers) and Script (two strings and the limits) as values. -/
import Derived.Test.YtipddolkikhojaaDoorPl
import Derived.Test.YtipddolkikhojaaDoorSl
import Derived.ProofKit
import Derived.OpenShut
import Derived.ShutString
import Derived.Laws.IdiomArrays
import Derived.LaidLaws
import Derived.ChangeArms
import Derived.Test.YtipddolkikhojaaDoorBuild
namespace Go.Proofs.YtipddolkikhojaaDoor
open Go Go.ChangeShapes Go.WideShapes Go.RowKit
set_option linter.unusedVariables false
set_option linter.unusedSimpArgs false
set_option maxRecDepth 100000 in
theorem words_of {W : World} {rest : List (String × DataW Unit)}
    (h : laidMet Tryd.prog (("coney/script.words", (.agg [.lit (.string [102, 117, 101, 108, 32]), .lit (.string [114, 111, 111, 109, 32]), .lit (.string [115, 116, 97, 99, 107, 32]), .lit (.string [97, 110, 115, 119, 101, 114, 115, 32])] : DataW Unit)) :: rest) W) : WordsX W := by
  obtain ⟨ps, ⟨g', t', cs, fuel, p, q, hg', ht', hvar, hd, _, _⟩, _⟩ := h
  obtain rfl := Option.some.inj ((show Tryd.prog.globalNamed "coney/script.words" = some 1 by kernel_rfl).symm.trans hg')
  obtain rfl := Option.some.inj ((show (Tryd.prog.globals[1]?).map (·.type) = some 86 by kernel_rfl).symm.trans ht')
  have ce : Tryd.prog.cellsOf 9 = 1 := by kernel_rfl
  have hl : cs.toList.length = 4 := by
    cases fuel with
    | zero => simp [DataW.trod] at hd
    | succ n =>
      simp only [DataW.trod, Tryd.underlying86] at hd
      split at hd
      · rename_i hl
        rw [show Tryd.prog.cellsOf 86 = 4 by kernel_rfl] at hl
        exact of_decide_eq_true (by simpa using hl)
      · cases hd
  obtain ⟨l⟩ := cs
  match l, hl with
  | [v0, v1, v2, v3], _ =>
    obtain ⟨y0, y1, y2, y3, n, e, h0, h1, h2, h3⟩ := trod_array4 Tryd.underlying86 ce hd
    obtain ⟨s0, c0, x0, _⟩ := DataW.trod_string Tryd.underlying9 h0
    obtain ⟨s1, c1, x1, _⟩ := DataW.trod_string Tryd.underlying9 h1
    obtain ⟨s2, c2, x2, _⟩ := DataW.trod_string Tryd.underlying9 h2
    obtain ⟨s3, c3, x3, _⟩ := DataW.trod_string Tryd.underlying9 h3
    simp only [List.cons.injEq, and_true] at c0 c1 c2 c3
    subst c0; subst c1; subst c2; subst c3; subst x0; subst x1; subst x2; subst x3
    simp only [Prod.mk.injEq, DataW.agg.injEq, List.cons.injEq, DataW.lit.injEq, Lit.string.injEq, and_true] at e
    obtain ⟨⟨e0, e1, e2, e3⟩, _⟩ := e
    have z : ∀ (s : ByteArray) (l : List UInt8), l = s.data.toList → s = ⟨⟨l⟩⟩ := by
      intro s l h; subst h; rfl
    have w0 := z s0 _ e0
    have w1 := z s1 _ e1
    have w2 := z s2 _ e2
    have w3 := z s3 _ e3
    subst w0; subst w1; subst w2; subst w3
    exact ⟨by simpa using World.var?_cell hg' hvar 0, by simpa using World.var?_cell hg' hvar 1, by simpa using World.var?_cell hg' hvar 2, by simpa using World.var?_cell hg' hvar 3⟩
set_option maxRecDepth 100000 in
theorem open_limits {H : Type} {enc : TypeId × Value → H} {w : World} {base : Nat} {spare : Nat → Bool} {held : Bool} {fuel : Nat} {cs : List Value} {x : DataW H × List MemPlace} (h : DataW.trod enc Tryd.prog w base spare held fuel 36 cs = some x) :
    ∃ a b c d : Int, cs = [.int .i64 a, .int .i64 b, .int .i64 c, .int .i64 d] ∧ I64 a ∧ I64 b ∧ I64 c ∧ I64 d := by
  have ce : Tryd.prog.cellsOf 36 = 4 := by kernel_rfl
  have ci : Tryd.prog.cellsOf 3 = 1 := by kernel_rfl
  obtain ⟨xs, k, hk, hxy, hcl, hxl, hf⟩ := DataW.trod_struct Tryd.underlying36 h
  rw [ce] at hcl
  match cs, hcl with
  | [v0, v1, v2, v3], _ =>
    have g0 := hf 0 _ rfl
    have g1 := hf 1 _ rfl
    have g2 := hf 2 _ rfl
    have g3 := hf 3 _ rfl
    simp [ci] at g0 g1 g2 g3
    have hx4 : xs.length = 4 := hxl
    rw [List.getElem?_eq_getElem (by omega)] at g0 g1 g2 g3
    obtain ⟨n0, e0, _, w0⟩ := DataW.trod_int Tryd.underlying3 g0
    obtain ⟨n1, e1, _, w1⟩ := DataW.trod_int Tryd.underlying3 g1
    obtain ⟨n2, e2, _, w2⟩ := DataW.trod_int Tryd.underlying3 g2
    obtain ⟨n3, e3, _, w3⟩ := DataW.trod_int Tryd.underlying3 g3
    simp at e0 e1 e2 e3
    subst e0; subst e1; subst e2; subst e3
    have b0 := bounds_i64 w0
    have b1 := bounds_i64 w1
    have b2 := bounds_i64 w2
    have b3 := bounds_i64 w3
    exact ⟨_, _, _, _, rfl, ⟨by omega, by omega⟩, ⟨by omega, by omega⟩, ⟨by omega, by omega⟩, ⟨by omega, by omega⟩⟩
set_option maxRecDepth 100000 in
theorem open_script {H : Type} {enc : TypeId × Value → H} {w : World} {base : Nat} {spare : Nat → Bool} {held : Bool} {fuel : Nat} {cs : List Value} {x : DataW H × List MemPlace} (h : DataW.trod enc Tryd.prog w base spare held fuel 38 cs = some x) :
    ∃ (p q : ByteArray) (a b c d : Int), cs = [.string p, .string q, .int .i64 a, .int .i64 b, .int .i64 c, .int .i64 d] ∧ I64 a ∧ I64 b ∧ I64 c ∧ I64 d := by
  have ce : Tryd.prog.cellsOf 38 = 6 := by kernel_rfl
  have cl : Tryd.prog.cellsOf 36 = 4 := by kernel_rfl
  have cs1 : Tryd.prog.cellsOf 9 = 1 := by kernel_rfl
  obtain ⟨xs, k, hk, hxy, hcl, hxl, hf⟩ := DataW.trod_struct Tryd.underlying38 h
  rw [ce] at hcl
  match cs, hcl with
  | [v0, v1, v2, v3, v4, v5], _ =>
    have g0 := hf 0 _ rfl
    have g1 := hf 1 _ rfl
    have g2 := hf 2 _ rfl
    simp [cl, cs1] at g0 g1 g2
    have hx3 : xs.length = 3 := hxl
    rw [List.getElem?_eq_getElem (by omega)] at g0 g1 g2
    obtain ⟨s0, e0, _, _⟩ := DataW.trod_string Tryd.underlying9 g0
    obtain ⟨s1, e1, _, _⟩ := DataW.trod_string Tryd.underlying9 g1
    obtain ⟨a, b, c, d, e2, ia, ib, ic, id⟩ := open_limits g2
    simp at e0 e1 e2
    subst e0; subst e1
    obtain ⟨rfl, rfl, rfl, rfl⟩ := e2
    exact ⟨_, _, _, _, _, _, rfl, ia, ib, ic, id⟩
#print axioms words_of
#print axioms open_script
end Go.Proofs.YtipddolkikhojaaDoor
