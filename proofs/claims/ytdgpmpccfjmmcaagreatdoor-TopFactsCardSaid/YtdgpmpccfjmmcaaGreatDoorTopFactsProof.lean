/- The law TopFacts returns true for every input, whatever the memory; no condition (but the tables that the card ties). The walk stands in the texts that are imported; this is the frame round it. -/
import Derived.Test.YtdgpmpccfjmmcaaGreatDoorRows
import Derived.WalkKit
import Derived.Test.YtdgpmpccfjmmcaaGreatDoorKZr
import Derived.ProofKit
import Derived.OpenShut
import Derived.ShutString
import Derived.ChangeOld
import Derived.Below
import Derived.Test.YtdgpmpccfjmmcaaGreatDoorCards
import Derived.Test.YtdgpmpccfjmmcaaGreatDoorT1
import Derived.Test.YtdgpmpccfjmmcaaGreatDoorF1
import Derived.Test.YtdgpmpccfjmmcaaGreatDoorF2
import Derived.Deep.DeepHandedRow
import Derived.Lib.LaidTab
import Derived.Stop.LaidErr
import Derived.LaidMore
import Derived.Stop.ErrReads
import Derived.HandedShaped
import Derived.Shelf.Vars
namespace Go.Proofs.YtdgpmpccfjmmcaaGreatDoor.topFacts
open Go.ChangeShapes Go.WideShapes Go.ChangeAt Go.RowKit
set_option linter.unusedVariables false

theorem own : ownKnob Tryz.prog.godebug = none := by kernel_rfl
theorem laidOut : laidOutB Tryz.prog = true := by kernel_rfl
/-- WHAT THE ROW's LIST GIVES: the table's cells. -/
theorem pow_data : (Rows.laid_internal_strconv_uint64pow10 : DataW Unit) = Lib.tabData .u64 Lib.pow10Tab := by rfl
theorem table {W : World} (h0 : laidMetH Tryz.prog Rows.topFactsRow.laid W) : TabX W := by
  have h : laidMet Tryz.prog [("coney/ops.table", Rows.laid_coney_ops_table), ("math/bits.deBruijn32tab", Rows.laid_math_bits_deBruijn32tab), ("math/bits.deBruijn64tab", Rows.laid_math_bits_deBruijn64tab), ("internal/strconv.uint64pow10", Rows.laid_internal_strconv_uint64pow10), ("unicode/utf8.acceptRanges", Rows.laid_unicode_utf8_acceptRanges), ("strconv.ErrRange", Rows.laid_strconv_ErrRange), ("strconv.ErrSyntax", Rows.laid_strconv_ErrSyntax), ("coney/machine.goals", Rows.laid_coney_machine_goals), ("unicode/utf8.first", Rows.laid_unicode_utf8_first)] W := h0
  rw [pow_data] at h
  exact Lib.tabIs_of_head (g := 3) (by kernel_rfl) (by kernel_rfl) Tryz.underlying313 Tryz.underlying42 (by kernel_rfl) (by kernel_rfl) (laidMet.tail (laidMet.tail (laidMet.tail h)))
theorem reads (os : Os) {H : Type} (enc : TypeId × Value → H) : ∃ places, DataW.whole enc Tryz.prog ((laidWorld os).forCall (fun _ _ => 0) ⟨#[], #[.slice none 0 0, .int .i8 0], []⟩).memory Tryz.f3.params.toList Rows.topFactsSpec.vars false (#[.slice none 0 0, .int .i8 0] : Array Value).toList 8 = some ([.nil, .lit (.int .i8 0)], [], places) :=
  ⟨[], by kernel_rfl⟩
theorem star : "*" ++ "errors.errorString" = "*errors.errorString" := by decide
theorem rowErr (u : TypeId) (h : Tryz.prog.typeName? 3 u = some "*errors.errorString") : u = 486 :=
  typeName_ptr_named (nm := "errors.errorString") (by rw [star]; kernel_rfl) (by kernel_rfl) (by decide) u (by rw [star]; exact h)
theorem sent_ErrRange {W : World} (h0 : laidMetH Tryz.prog Rows.topFactsRow.laid W) : ∃ te pe, W.cell? ⟨9, 0, none⟩ = some (.iface te pe) := by
  have h : laidMet Tryz.prog [("coney/ops.table", Rows.laid_coney_ops_table), ("math/bits.deBruijn32tab", Rows.laid_math_bits_deBruijn32tab), ("math/bits.deBruijn64tab", Rows.laid_math_bits_deBruijn64tab), ("internal/strconv.uint64pow10", Rows.laid_internal_strconv_uint64pow10), ("unicode/utf8.acceptRanges", Rows.laid_unicode_utf8_acceptRanges), ("strconv.ErrRange", Rows.laid_strconv_ErrRange), ("strconv.ErrSyntax", Rows.laid_strconv_ErrSyntax), ("coney/machine.goals", Rows.laid_coney_machine_goals), ("unicode/utf8.first", Rows.laid_unicode_utf8_first)] W := h0
  obtain ⟨a, s, hv, _⟩ := laid_sentinel (g := 9) (laidMet.tail (laidMet.tail (laidMet.tail (laidMet.tail (laidMet.tail h))))) (by kernel_rfl) (by kernel_rfl) Tryz.underlying188 rowErr Tryz.underlying486 Tryz.underlying488 rfl rfl Tryz.underlying9 (by kernel_rfl) (by kernel_rfl)
  exact ⟨_, _, by simpa using World.var?_cell (g := 9) (by kernel_rfl) hv 0⟩
theorem sent_ErrSyntax {W : World} (h0 : laidMetH Tryz.prog Rows.topFactsRow.laid W) : ∃ te pe, W.cell? ⟨8, 0, none⟩ = some (.iface te pe) := by
  have h : laidMet Tryz.prog [("coney/ops.table", Rows.laid_coney_ops_table), ("math/bits.deBruijn32tab", Rows.laid_math_bits_deBruijn32tab), ("math/bits.deBruijn64tab", Rows.laid_math_bits_deBruijn64tab), ("internal/strconv.uint64pow10", Rows.laid_internal_strconv_uint64pow10), ("unicode/utf8.acceptRanges", Rows.laid_unicode_utf8_acceptRanges), ("strconv.ErrRange", Rows.laid_strconv_ErrRange), ("strconv.ErrSyntax", Rows.laid_strconv_ErrSyntax), ("coney/machine.goals", Rows.laid_coney_machine_goals), ("unicode/utf8.first", Rows.laid_unicode_utf8_first)] W := h0
  obtain ⟨a, s, hv, _⟩ := laid_sentinel (g := 8) (laidMet.tail (laidMet.tail (laidMet.tail (laidMet.tail (laidMet.tail (laidMet.tail h)))))) (by kernel_rfl) (by kernel_rfl) Tryz.underlying188 rowErr Tryz.underlying486 Tryz.underlying488 rfl rfl Tryz.underlying9 (by kernel_rfl) (by kernel_rfl)
  exact ⟨_, _, by simpa using World.var?_cell (g := 8) (by kernel_rfl) hv 0⟩
theorem ops_data : (Rows.laid_coney_ops_table : DataW Unit) = .agg (opRows.map rowD) := by rfl
theorem opsT {W : World} (h0 : laidMetH Tryz.prog Rows.topFactsRow.laid W) : TableX W := by
  have h : laidMet Tryz.prog [("coney/ops.table", Rows.laid_coney_ops_table), ("math/bits.deBruijn32tab", Rows.laid_math_bits_deBruijn32tab), ("math/bits.deBruijn64tab", Rows.laid_math_bits_deBruijn64tab), ("internal/strconv.uint64pow10", Rows.laid_internal_strconv_uint64pow10), ("unicode/utf8.acceptRanges", Rows.laid_unicode_utf8_acceptRanges), ("strconv.ErrRange", Rows.laid_strconv_ErrRange), ("strconv.ErrSyntax", Rows.laid_strconv_ErrSyntax), ("coney/machine.goals", Rows.laid_coney_machine_goals), ("unicode/utf8.first", Rows.laid_unicode_utf8_first)] W := h0
  rw [ops_data] at h
  exact ops_of h
theorem goals_data : (Rows.laid_coney_machine_goals : DataW Unit) = .agg ((List.range 5).map goalD) := by rfl
theorem goalsT {W : World} (h0 : laidMetH Tryz.prog Rows.topFactsRow.laid W) : GoalsX W := by
  have h : laidMet Tryz.prog [("coney/ops.table", Rows.laid_coney_ops_table), ("math/bits.deBruijn32tab", Rows.laid_math_bits_deBruijn32tab), ("math/bits.deBruijn64tab", Rows.laid_math_bits_deBruijn64tab), ("internal/strconv.uint64pow10", Rows.laid_internal_strconv_uint64pow10), ("unicode/utf8.acceptRanges", Rows.laid_unicode_utf8_acceptRanges), ("strconv.ErrRange", Rows.laid_strconv_ErrRange), ("strconv.ErrSyntax", Rows.laid_strconv_ErrSyntax), ("coney/machine.goals", Rows.laid_coney_machine_goals), ("unicode/utf8.first", Rows.laid_unicode_utf8_first)] W := h0
  rw [goals_data] at h
  exact goals_of (laidMet.tail (laidMet.tail (laidMet.tail (laidMet.tail (laidMet.tail (laidMet.tail (laidMet.tail h)))))))
/-! ### THE ROW's STEP -/
set_option maxRecDepth 100000 in
theorem lifted (os : Os) (started : os.Started) (H : Type) (enc : TypeId × Value → H) (F : Stop.Interp) :
    ReturnsInHanded {} Tryz.checked os 3 .any ((OpenSpec.ofChange Rows.topFactsSpec).preRow enc Tryz.prog Tryz.f3 Rows.topFactsRow.domain false Rows.topFactsRow.laid) (((OpenSpec.ofChange Rows.topFactsSpec).at F).post enc Tryz.prog Tryz.f3 false true false false) := by
  obtain ⟨places, hx⟩ := reads os enc
  refine returnsInHanded_of_row (C := Tryz.checked) (s := OpenSpec.ofChange Rows.topFactsSpec) own started (by kernel_rfl) Tryz.func3
    (witness_row_at (enc := enc) (C := Tryz.checked) false (laidWorld os) #[.slice none 0 0, .int .i8 0] rfl (by kernel_rfl) (by kernel_rfl) (by kernel_rfl)
      (OpenSpec.preRow_of_cond 8 hx (by kernel_rfl) (fun k hk => by cases hk) (by kernel_rfl) (laid_met os))) ?_
  intro W base args ds gs before hval0 hW _ _ _ hL hsh _
  obtain ⟨mx, hmx⟩ := cell_of_shapedOpen_int (P := Tryz.prog) (g := 2) (t := 3) (zero := #[.int .i64 0]) hsh (of_decide_eq_true (by kernel_rfl)) (by kernel_rfl) rfl (by kernel_rfl) (by kernel_rfl) Tryz.underlying3
  have htab := table hL
  have herr : ErrX W := ⟨sent_ErrSyntax hL, sent_ErrRange hL⟩
  have hops := opsT hL
  have hgls := goalsT hL
  have hval : ∀ (j : Nat) t v, Tryz.f3.params[j]? = some t → args[j]? = some v → Value.okWide Tryz.prog W .any base t v := hval0
  have hW' := hW
  obtain ⟨p, q, hA0, hV, rfl, hfz, hnd⟩ := hW
  have hA : DataW.TrodAll enc Tryz.prog W 0 (fun _ => true) true Tryz.f3.params.toList args.toList ds p := hA0
  rw [Tryz.params3] at hA hval
  obtain ⟨v0, vs0, d0, ds0, p0, q0, hargs, rfl, rfl, h0, r0⟩ := trodAll_cons hA
  obtain ⟨v1, vs1, d1, ds1, p1, q1, rfl, rfl, rfl, h1, r1⟩ := trodAll_cons r0
  obtain ⟨rfl, rfl, rfl⟩ := trodAll_nil r1
  obtain rfl : args = #[v0, v1] := by cases args; simp_all
  obtain ⟨rfl, rfl⟩ := trodVars_none hV
  have k0 := h0
  have lt0 : ∀ x ∈ p0, x.block < W.heap.size := by obtain ⟨m, hm⟩ := k0; exact DataW.trod_lt m _ _ _ hm
  obtain ⟨a0, len0, cap0, rfl⟩ := okWide_slice Tryz.underlying22 (hval 0 22 v0 rfl rfl)
  obtain ⟨l, hl1, hl2, hl3⟩ : ∃ l : List Int, SIn W W.heap.size l (.slice a0 len0 cap0) ∧ (∀ x ∈ l, Small x) ∧ (l.length : Int) ≤ 9223372036854775807 := by
    obtain ⟨fuel, hf⟩ := h0
    exact open_sin (by simpa [Value.cells] using hf)
  obtain ⟨a1, rfl, rfl, rfl, w1⟩ := open_int Tryz.underlying23 (hval 1 23 v1 rfl rfl) h1
  have b1 := bounds_i8 w1
  clear hA0 hval0
  refine (show Calls Tryz.prog 3 #[.slice a0 len0 cap0, .int .i8 a1] W fun e w' => e = .returned (.bool true) ∧ Below W.heap.size W w' from topfacts_all W hl1 hl2 hl3 ⟨by omega, by omega⟩ hmx htab herr hops hgls).mono fun e W' ⟨he, bel⟩ => ?_
  subst he
  exact ⟨_, rfl, _, _, _, [], _, [], hW', trodAll_mk1 (shut_bool Tryz.underlying4 true), (trodAll_cons_mk (Below.trod laidOut (by kernel_rfl) (of_decide_eq_true (by kernel_rfl)) k0 bel lt0) (trodAll_cons_mk (shut_int Tryz.underlying23 w1) trodAll_mk0)), rfl, bel.frame _, fun h => by cases h⟩

theorem said : Rows.TopFactsSaid :=
  OpenClaim.holds_of_cond 3 Tryz.f3 rfl rfl rfl rfl rfl rfl rfl ⟨rfl, rfl, rfl, rfl, rfl⟩ rfl rfl rfl rfl rfl (by kernel_rfl) Tryz.func3 closed
    (of_decide_eq_true (by kernel_rfl)) (by unfold Func.isWrapper; first | (rw [if_pos (by decide +kernel)]; kernel_rfl) | (rw [if_neg (by decide +kernel)]; exact ⟨rfl, rfl⟩))
    (fun os started H enc _ F => by rw [OpenClaim.pre_eq_preRow]; exact lifted os started H enc F)
theorem plain (f : FuncId) (fn : Func) (hf : Tryz.pinned.checked.prog.funcNamed "coney/coneytop.TopFacts" = some f) (hfn : Tryz.pinned.checked.prog.funcs[f]? = some fn) :
    true = Tryz.pinned.checked.prog.looks [] ∧ ∀ (j : Nat) t, fn.params[j]? = some t → Tryz.pinned.checked.prog.wantsStandIn t = false := by
  obtain rfl : f = 3 := Option.some.inj ((show Tryz.prog.funcNamed "coney/coneytop.TopFacts" = some 3 by kernel_rfl).symm.trans hf) |>.symm
  obtain rfl : fn = Tryz.f3 := (Option.some.inj (Tryz.func3.symm.trans hfn)).symm
  refine ⟨by kernel_rfl, fun j t ht => ?_⟩
  rw [Tryz.params3] at ht
  have hm : t = 22 ∨ t = 23 := by simpa using Array.mem_of_getElem? ht
  rcases hm with rfl | rfl
  · exact (show Tryz.prog.wantsStandIn 22 = false by kernel_rfl)
  · exact (show Tryz.prog.wantsStandIn 23 = false by kernel_rfl)
/-- ████ THE STATEMENT: THE CARD ████ -/
theorem proved : Rows.TopFactsCardSaid :=
  Claim7.holds_tied_plain_at .later [] _ _ _ _ said (fun _ h => by cases h) (by kernel_rfl) (fun _ h => by cases h) topFacts_row_tie rfl ⟨rfl, rfl⟩ (by kernel_rfl) rfl plain hgoes
#print axioms proved
end Go.Proofs.YtdgpmpccfjmmcaaGreatDoor.topFacts
