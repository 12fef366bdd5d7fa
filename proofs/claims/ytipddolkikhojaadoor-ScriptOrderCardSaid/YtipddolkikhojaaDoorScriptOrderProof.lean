/- The law ScriptOrder returns true for every input, whatever the memory; no condition (but the tables that the card ties). The walk stands in the texts that are imported; this is the frame round it. -/
import Derived.Test.YtipddolkikhojaaDoorRows
import Derived.WalkKit
import Derived.Test.YtipddolkikhojaaDoorCwOrder
import Derived.ProofKit
import Derived.OpenShut
import Derived.ShutString
import Derived.ChangeOld
import Derived.Below
import Derived.Test.YtipddolkikhojaaDoorWo
import Derived.Test.YtipddolkikhojaaDoorCards
import Derived.Test.YtipddolkikhojaaDoorTie
import Derived.Deep.DeepHandedRow
import Derived.Lib.LaidTab
import Derived.Stop.LaidErr
import Derived.LaidMore
import Derived.Stop.ErrReads
import Derived.HandedShaped
import Derived.Shelf.Vars
namespace Go.Proofs.YtipddolkikhojaaDoor.scriptOrder
open Go.ChangeShapes Go.WideShapes Go.ChangeAt Go.RowKit
set_option linter.unusedVariables false

theorem own : ownKnob Tryd.prog.godebug = none := by kernel_rfl
theorem laidOut : laidOutB Tryd.prog = true := by kernel_rfl
/-- WHAT THE ROW's LIST GIVES: the table's cells. -/
theorem pow_data : (Rows.laid_internal_strconv_uint64pow10 : DataW Unit) = Lib.tabData .u64 Lib.pow10Tab := by rfl
theorem table {W : World} (h0 : laidMetH Tryd.prog Rows.scriptOrderRow.laid W) : TabX W := by
  have h : laidMet Tryd.prog [("math/bits.deBruijn32tab", Rows.laid_math_bits_deBruijn32tab), ("math/bits.deBruijn64tab", Rows.laid_math_bits_deBruijn64tab), ("internal/strconv.uint64pow10", Rows.laid_internal_strconv_uint64pow10), ("strconv.ErrRange", Rows.laid_strconv_ErrRange), ("strconv.ErrSyntax", Rows.laid_strconv_ErrSyntax), ("coney/script.words", Rows.laid_coney_script_words)] W := h0
  rw [pow_data] at h
  exact Lib.tabIs_of_head (g := 5) (by kernel_rfl) (by kernel_rfl) Tryd.underlying182 Tryd.underlying72 (by kernel_rfl) (by kernel_rfl) (laidMet.tail (laidMet.tail h))
noncomputable def laidWorld (os : Os) : World :=
  World.doorLaid Tryd.prog 400 os
theorem laid_met (os : Os) : laidMet Tryd.prog Rows.scriptOrderRow.laid ((laidWorld os).forCall (fun _ _ => 0) ⟨#[], #[.slice none 0 0, .string ⟨#[]⟩, .int .u16 0], []⟩).memory :=
  laidMet_of_run' 8 (by kernel_rfl) (by kernel_rfl)
theorem reads (os : Os) {H : Type} (enc : TypeId × Value → H) : ∃ places, DataW.whole enc Tryd.prog ((laidWorld os).forCall (fun _ _ => 0) ⟨#[], #[.slice none 0 0, .string ⟨#[]⟩, .int .u16 0], []⟩).memory Tryd.f4.params.toList Rows.scriptOrderSpec.vars false (#[.slice none 0 0, .string ⟨#[]⟩, .int .u16 0] : Array Value).toList 8 = some ([.nil, .lit (.string []), .lit (.int .u16 0)], [], places) :=
  ⟨[], by kernel_rfl⟩
theorem star : "*" ++ "errors.errorString" = "*errors.errorString" := by decide
theorem rowErr (u : TypeId) (h : Tryd.prog.typeName? 3 u = some "*errors.errorString") : u = 189 :=
  typeName_ptr_named (nm := "errors.errorString") (by rw [star]; kernel_rfl) (by kernel_rfl) (by decide) u (by rw [star]; exact h)
theorem sent_ErrRange {W : World} (h0 : laidMetH Tryd.prog Rows.scriptOrderRow.laid W) : ∃ te pe, W.cell? ⟨4, 0, none⟩ = some (.iface te pe) := by
  have h : laidMet Tryd.prog [("math/bits.deBruijn32tab", Rows.laid_math_bits_deBruijn32tab), ("math/bits.deBruijn64tab", Rows.laid_math_bits_deBruijn64tab), ("internal/strconv.uint64pow10", Rows.laid_internal_strconv_uint64pow10), ("strconv.ErrRange", Rows.laid_strconv_ErrRange), ("strconv.ErrSyntax", Rows.laid_strconv_ErrSyntax), ("coney/script.words", Rows.laid_coney_script_words)] W := h0
  obtain ⟨a, s, hv, _⟩ := laid_sentinel (g := 4) (laidMet.tail (laidMet.tail (laidMet.tail h))) (by kernel_rfl) (by kernel_rfl) Tryd.underlying59 rowErr Tryd.underlying189 Tryd.underlying191 rfl rfl Tryd.underlying9 (by kernel_rfl) (by kernel_rfl)
  exact ⟨_, _, by simpa using World.var?_cell (g := 4) (by kernel_rfl) hv 0⟩
theorem sent_ErrSyntax {W : World} (h0 : laidMetH Tryd.prog Rows.scriptOrderRow.laid W) : ∃ te pe, W.cell? ⟨3, 0, none⟩ = some (.iface te pe) := by
  have h : laidMet Tryd.prog [("math/bits.deBruijn32tab", Rows.laid_math_bits_deBruijn32tab), ("math/bits.deBruijn64tab", Rows.laid_math_bits_deBruijn64tab), ("internal/strconv.uint64pow10", Rows.laid_internal_strconv_uint64pow10), ("strconv.ErrRange", Rows.laid_strconv_ErrRange), ("strconv.ErrSyntax", Rows.laid_strconv_ErrSyntax), ("coney/script.words", Rows.laid_coney_script_words)] W := h0
  obtain ⟨a, s, hv, _⟩ := laid_sentinel (g := 3) (laidMet.tail (laidMet.tail (laidMet.tail (laidMet.tail h)))) (by kernel_rfl) (by kernel_rfl) Tryd.underlying59 rowErr Tryd.underlying189 Tryd.underlying191 rfl rfl Tryd.underlying9 (by kernel_rfl) (by kernel_rfl)
  exact ⟨_, _, by simpa using World.var?_cell (g := 3) (by kernel_rfl) hv 0⟩
theorem words {W : World} (h0 : laidMetH Tryd.prog Rows.scriptOrderRow.laid W) : WordsX W := by
  have h : laidMet Tryd.prog [("math/bits.deBruijn32tab", Rows.laid_math_bits_deBruijn32tab), ("math/bits.deBruijn64tab", Rows.laid_math_bits_deBruijn64tab), ("internal/strconv.uint64pow10", Rows.laid_internal_strconv_uint64pow10), ("strconv.ErrRange", Rows.laid_strconv_ErrRange), ("strconv.ErrSyntax", Rows.laid_strconv_ErrSyntax), ("coney/script.words", Rows.laid_coney_script_words)] W := h0
  exact words_of (laidMet.tail (laidMet.tail (laidMet.tail (laidMet.tail (laidMet.tail h)))))
/-! ### THE ROW's STEP -/
set_option maxRecDepth 100000 in
theorem lifted (os : Os) (started : os.Started) (H : Type) (enc : TypeId × Value → H) (F : Stop.Interp) :
    ReturnsInHanded {} Tryd.checked os 4 .any ((OpenSpec.ofChange Rows.scriptOrderSpec).preRow enc Tryd.prog Tryd.f4 Rows.scriptOrderRow.domain false Rows.scriptOrderRow.laid) (((OpenSpec.ofChange Rows.scriptOrderSpec).at F).post enc Tryd.prog Tryd.f4 false true false false) := by
  obtain ⟨places, hx⟩ := reads os enc
  refine returnsInHanded_of_row (C := Tryd.checked) (s := OpenSpec.ofChange Rows.scriptOrderSpec) own started (by kernel_rfl) Tryd.func4
    (witness_row_at (enc := enc) (C := Tryd.checked) false (laidWorld os) #[.slice none 0 0, .string ⟨#[]⟩, .int .u16 0] rfl (by kernel_rfl) (by kernel_rfl) (by kernel_rfl)
      (OpenSpec.preRow_of_cond 8 hx (by kernel_rfl) (fun k hk => by cases hk) (by kernel_rfl) (laid_met os))) ?_
  intro W base args ds gs before hval0 hW _ _ _ hL hsh _
  obtain ⟨mx, hmx⟩ := cell_of_shapedOpen_int (P := Tryd.prog) (g := 2) (t := 3) (zero := #[.int .i64 0]) hsh (of_decide_eq_true (by kernel_rfl)) (by kernel_rfl) rfl (by kernel_rfl) (by kernel_rfl) Tryd.underlying3
  have htab := table hL
  have herr : ErrX W := ⟨sent_ErrSyntax hL, sent_ErrRange hL⟩
  have hwords := words hL
  have hval : ∀ (j : Nat) t v, Tryd.f4.params[j]? = some t → args[j]? = some v → Value.okWide Tryd.prog W .any base t v := hval0
  have hW' := hW
  obtain ⟨p, q, hA0, hV, rfl, hfz, hnd⟩ := hW
  have hA : DataW.TrodAll enc Tryd.prog W 0 (fun _ => true) true Tryd.f4.params.toList args.toList ds p := hA0
  rw [Tryd.params4] at hA hval
  obtain ⟨v0, vs0, d0, ds0, p0, q0, hargs, rfl, rfl, h0, r0⟩ := trodAll_cons hA
  obtain ⟨v1, vs1, d1, ds1, p1, q1, rfl, rfl, rfl, h1, r1⟩ := trodAll_cons r0
  obtain ⟨v2, vs2, d2, ds2, p2, q2, rfl, rfl, rfl, h2, r2⟩ := trodAll_cons r1
  obtain ⟨rfl, rfl, rfl⟩ := trodAll_nil r2
  obtain rfl : args = #[v0, v1, v2] := by cases args; simp_all
  obtain ⟨rfl, rfl⟩ := trodVars_none hV
  have k0 := h0
  have lt0 : ∀ x ∈ p0, x.block < W.heap.size := by obtain ⟨m, hm⟩ := k0; exact DataW.trod_lt m _ _ _ hm
  obtain ⟨a0, len0, cap0, rfl⟩ := okWide_slice Tryd.underlying31 (hval 0 31 v0 rfl rfl)
  obtain ⟨nm, hnm0, hnl⟩ : ∃ nm : List ByteArray, NmIn W W.heap.size nm (.slice a0 len0 cap0) ∧ (nm.length : Int) ≤ 9223372036854775807 := by
    obtain ⟨fuel, hf⟩ := h0
    exact open_names (by simpa [Value.cells] using hf)
  obtain rfl : len0 = nm.length := by
    obtain ⟨_, _, e, _⟩ := hnm0
    injection e
  obtain ⟨a1, rfl, rfl, rfl, w1⟩ := Go.ChangeMaps.open_string Tryd.underlying9 (hval 1 9 v1 rfl rfl) h1
  obtain ⟨a2, rfl, rfl, rfl, w2⟩ := open_int Tryd.underlying32 (hval 2 32 v2 rfl rfl) h2
  have b2 := bounds_u16 w2
  clear hA0 hval0
  refine (show Calls Tryd.prog 4 #[.slice a0 nm.length cap0, .string a1, .int .u16 a2] W fun e w' => e = .returned (.bool true) ∧ Below W.heap.size W w' from scriptorder_any nm a0 cap0 a1 a2 W hnm0 hnl (by omega) mx hmx hwords htab herr).mono fun e W' ⟨he, bel⟩ => ?_
  subst he
  exact ⟨_, rfl, _, _, _, [], _, [], hW', trodAll_mk1 (shut_bool Tryd.underlying4 true), (trodAll_cons_mk (Below.trod laidOut (by kernel_rfl) (of_decide_eq_true (by kernel_rfl)) k0 bel lt0) (trodAll_cons_mk (Go.ChangeMaps.shut_string Tryd.underlying9 w1) (trodAll_cons_mk (shut_int Tryd.underlying32 w2) trodAll_mk0))), rfl, bel.frame _, fun h => by cases h⟩

theorem said : Rows.ScriptOrderSaid :=
  OpenClaim.holds_of_cond 4 Tryd.f4 rfl rfl rfl rfl rfl rfl rfl ⟨rfl, rfl, rfl, rfl, rfl⟩ rfl rfl rfl rfl rfl (by kernel_rfl) Tryd.func4 (by kernel_rfl)
    (of_decide_eq_true (by kernel_rfl)) (by unfold Func.isWrapper; first | (rw [if_pos (by decide +kernel)]; kernel_rfl) | (rw [if_neg (by decide +kernel)]; exact ⟨rfl, rfl⟩))
    (fun os started H enc _ F => by rw [OpenClaim.pre_eq_preRow]; exact lifted os started H enc F)
theorem plain (f : FuncId) (fn : Func) (hf : Tryd.pinned.checked.prog.funcNamed "coney/coneylaw21.ScriptOrder" = some f) (hfn : Tryd.pinned.checked.prog.funcs[f]? = some fn) :
    true = Tryd.pinned.checked.prog.looks [] ∧ ∀ (j : Nat) t, fn.params[j]? = some t → Tryd.pinned.checked.prog.wantsStandIn t = false := by
  obtain rfl : f = 4 := Option.some.inj ((show Tryd.prog.funcNamed "coney/coneylaw21.ScriptOrder" = some 4 by kernel_rfl).symm.trans hf) |>.symm
  obtain rfl : fn = Tryd.f4 := (Option.some.inj (Tryd.func4.symm.trans hfn)).symm
  refine ⟨by kernel_rfl, fun j t ht => ?_⟩
  rw [Tryd.params4] at ht
  have hm : t = 31 ∨ t = 9 ∨ t = 32 := by simpa using Array.mem_of_getElem? ht
  rcases hm with rfl | rfl | rfl
  · exact (show Tryd.prog.wantsStandIn 31 = false by kernel_rfl)
  · exact (show Tryd.prog.wantsStandIn 9 = false by kernel_rfl)
  · exact (show Tryd.prog.wantsStandIn 32 = false by kernel_rfl)
/-- ████ THE STATEMENT: THE CARD ████ -/
theorem proved : Rows.ScriptOrderCardSaid :=
  Claim7.holds_tied_plain_at .later [] _ _ _ _ said (fun _ h => by cases h) (by kernel_rfl) (fun _ h => by cases h) scriptOrder_row_tie rfl ⟨rfl, rfl⟩ (by kernel_rfl) rfl plain (by kernel_rfl)
#print axioms proved
end Go.Proofs.YtipddolkikhojaaDoor.scriptOrder
