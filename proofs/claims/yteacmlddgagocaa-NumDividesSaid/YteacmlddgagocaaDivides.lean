/- The walk through the law NumDivides. -/
import Derived.Test.YteacmlddgagocaaRef14
import Derived.Test.YteacmlddgagocaaNum2
namespace Go.Proofs.Yteacmlddgagocaa
open Go.RowKit

set_option maxRecDepth 100000 in
set_option maxHeartbeats 2000000 in
theorem divides_zero (a : Int) (w : World) :
    Calls Try.prog 4 #[.int .i64 a, .int .i64 0] w fun e w' => e = .returned (.bool true) ∧ Below w.heap.size w w' := by
  go_enter Try.func4, Try.ntmps4
  go_wp2_with fail
  refine (quo_zero a _).mono ?_
  rintro e wx ⟨rfl, rfl⟩
  go_wp2_with fail
  refine (rQuo_zero a _).mono ?_
  rintro e w1 ⟨rfl, h1⟩
  have s1 := h1.size
  go_wp2_with fail
  refine (rem_zero a _).mono ?_
  rintro e wx ⟨rfl, rfl⟩
  go_wp2_with fail
  refine (rRem_zero a _).mono ?_
  rintro e w3 ⟨rfl, h3⟩
  have s3 := h3.size
  go_wp2_with fail
  refine (div_zero a _).mono ?_
  rintro e wx ⟨rfl, rfl⟩
  go_wp2_with fail
  refine (rDiv_zero a _).mono ?_
  rintro e w5 ⟨rfl, h5⟩
  have s5 := h5.size
  go_wp2_with fail
  refine (mod_zero a _).mono ?_
  rintro e wx ⟨rfl, rfl⟩
  go_wp2_with fail
  refine (rMod_zero a _).mono ?_
  rintro e w7 ⟨rfl, h7⟩
  have s7 := h7.size
  have HB := Lib.hid ((((h1.trans (h3.mono (by omega))).trans (h5.mono (by omega))).trans (h7.mono (by omega))))
  clear h1 h3 h5 h7
  go_wp2
  go_ret
  exact ⟨rfl, HB.out⟩
set_option maxRecDepth 100000 in
set_option maxHeartbeats 2000000 in
theorem divides_not (a b : Int) (w : World) (ha : -9223372036854775808 ≤ a) (ha' : a ≤ 9223372036854775807) (hb : -9223372036854775808 ≤ b) (hb' : b ≤ 9223372036854775807) (hz : ¬ b = 0) :
    Calls Try.prog 4 #[.int .i64 a, .int .i64 b] w fun e w' => e = .returned (.bool true) ∧ Below w.heap.size w w' := by
  go_enter Try.func4, Try.ntmps4
  go_wp2_with fail
  refine (quo_any a b _ ha ha' hz).mono ?_
  rintro e wx ⟨rfl, rfl⟩
  go_wp2_with fail
  refine (rQuo_any a b _ ha ha' hb hb' hz).mono ?_
  rintro e w1 ⟨rfl, h1⟩
  have s1 := h1.size
  go_wp2_with fail
  refine (rem_any a b _ hz).mono ?_
  rintro e wx ⟨rfl, rfl⟩
  go_wp2_with fail
  refine (rRem_any a b _ ha ha' hb hb' hz).mono ?_
  rintro e w3 ⟨rfl, h3⟩
  have s3 := h3.size
  go_wp2_with fail
  refine (div_any a b _ ha ha' hz).mono ?_
  rintro e wx ⟨rfl, rfl⟩
  go_wp2_with fail
  refine (rDiv_any a b _ ha ha' hb hb' hz).mono ?_
  rintro e w5 ⟨rfl, h5⟩
  have s5 := h5.size
  go_wp2_with fail
  refine (mod_any a b _ hb hb' hz).mono ?_
  rintro e wx ⟨rfl, rfl⟩
  go_wp2_with fail
  refine (rMod_any a b _ ha ha' hb hb' hz).mono ?_
  rintro e w7 ⟨rfl, h7⟩
  have s7 := h7.size
  have HB := Lib.hid ((((h1.trans (h3.mono (by omega))).trans (h5.mono (by omega))).trans (h7.mono (by omega))))
  clear h1 h3 h5 h7
  go_wp2
  go_ret
  exact ⟨rfl, HB.out⟩
theorem divides_any (a b : Int) (w : World) (ha : -9223372036854775808 ≤ a) (ha' : a ≤ 9223372036854775807) (hb : -9223372036854775808 ≤ b) (hb' : b ≤ 9223372036854775807) :
    Calls Try.prog 4 #[.int .i64 a, .int .i64 b] w fun e w' => e = .returned (.bool true) ∧ Below w.heap.size w w' := by
  by_cases hz : b = 0
  · subst hz; exact divides_zero a w
  · exact divides_not a b w ha ha' hb hb' hz
end Go.Proofs.Yteacmlddgagocaa
