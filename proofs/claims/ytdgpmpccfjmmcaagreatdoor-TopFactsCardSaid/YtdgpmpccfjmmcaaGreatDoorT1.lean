/- The card's tie: its tables lie as the program's text lays them. -/
import Derived.Test.YtdgpmpccfjmmcaaGreatDoorRows
import Derived.LaidByTextLater
import Derived.SevenTiedAt
import Derived.LaidSub
import Derived.LaidOnce
namespace Go.Proofs.YtdgpmpccfjmmcaaGreatDoor
open Go
set_option maxRecDepth 100000
abbrev LL : List (String × DataW Unit) := [("coney/ops.table", Rows.laid_coney_ops_table), ("math/bits.deBruijn32tab", Rows.laid_math_bits_deBruijn32tab), ("math/bits.deBruijn64tab", Rows.laid_math_bits_deBruijn64tab), ("internal/strconv.uint64pow10", Rows.laid_internal_strconv_uint64pow10), ("unicode/utf8.acceptRanges", Rows.laid_unicode_utf8_acceptRanges), ("strconv.ErrRange", Rows.laid_strconv_ErrRange), ("strconv.ErrSyntax", Rows.laid_strconv_ErrSyntax), ("coney/machine.goals", Rows.laid_coney_machine_goals)]
abbrev KK : List LaidKind := [.data, .data, .data, .data, .data, .sentinel, .sentinel, .data]
theorem a1 : Tryz.prog.worded (varsWordLater true) = true := by kernel_rfl
theorem a2 : Tryz.prog.worded (varsWordLater !true) = false := by kernel_rfl
theorem a3 : Tryz.prog.worded rootWordLater = true := by kernel_rfl
theorem a4 : LL.map (fun x => Tryz.prog.kindOfLater x.1) = KK.map some := by kernel_rfl
theorem a5 : (Tryz.prog.funcNamed "gosem.cut.vars").isSome = true := by kernel_rfl
theorem b1 : varsNamedLaterB Tryz.prog (varsId Tryz.prog) LL = true := by kernel_rfl
theorem c1 : ∀ os tape, doorLeaves Tryz.prog 124 8 127 LL os tape = some (LL.filter fun x => x.2.handleName?.isNone, (funcsListed LL).map (·.2.funcsOut)) := fun _ _ => by kernel_rfl
theorem tie : Tryz.prog.laidByTextLater LL KK true := Program.laidByTextLater_by_one 124 8 127 a1 a2 a3 a4 a5 b1 c1
theorem pin_laid_unicode_utf8_first : Tryz.pinned.checked.prog.pinnedFits "unicode/utf8.first" = true := by kernel_rfl
theorem noOwnUnsafe : Tryz.pinned.checked.prog.headLifts.contains "ownunsafe" = false := by kernel_rfl
theorem fits1 : Tryz.pinned.checked.prog.listedFits [("coney/ops.table", Rows.laid_coney_ops_table), ("math/bits.deBruijn32tab", Rows.laid_math_bits_deBruijn32tab), ("math/bits.deBruijn64tab", Rows.laid_math_bits_deBruijn64tab), ("internal/strconv.uint64pow10", Rows.laid_internal_strconv_uint64pow10), ("unicode/utf8.acceptRanges", Rows.laid_unicode_utf8_acceptRanges), ("strconv.ErrRange", Rows.laid_strconv_ErrRange), ("strconv.ErrSyntax", Rows.laid_strconv_ErrSyntax), ("coney/machine.goals", Rows.laid_coney_machine_goals), ("unicode/utf8.first", Rows.laid_unicode_utf8_first)] = true := by
  unfold Program.listedFits
  rw [noOwnUnsafe]
  kernel_rfl
theorem topFacts_row_tie : Rows.topFactsRow.laidByTextAt .later Tryz.pinned [.data, .data, .data, .data, .data, .sentinel, .sentinel, .data, .pinned] true :=
  OpenClaim.laidByTextAt_pinned rfl rfl tie rfl rfl rfl rfl (fun y hy _e => by
    simp only [Rows.topFactsRow, List.zip_cons_cons, List.zip_nil_right, List.mem_cons, List.mem_nil_iff, or_false] at hy
    rcases hy with rfl | rfl | rfl | rfl | rfl | rfl | rfl | rfl | rfl
    · cases _e
    · cases _e
    · cases _e
    · cases _e
    · cases _e
    · cases _e
    · cases _e
    · cases _e
    · exact ⟨pin_laid_unicode_utf8_first, by kernel_rfl⟩) fits1
end Go.Proofs.YtdgpmpccfjmmcaaGreatDoor
