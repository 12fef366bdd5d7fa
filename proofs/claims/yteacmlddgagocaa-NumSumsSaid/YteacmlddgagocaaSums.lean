/- The walk through the law NumSums. -/
import Derived.Test.YteacmlddgagocaaRef7
namespace Go.Proofs.Yteacmlddgagocaa
open Go.RowKit

set_option maxRecDepth 100000 in
set_option maxHeartbeats 2000000 in
theorem sums_any (a b : Int) (w : World) (ha : -9223372036854775808 ≤ a) (ha' : a ≤ 9223372036854775807) (hb : -9223372036854775808 ≤ b) (hb' : b ≤ 9223372036854775807) :
    Calls Try.prog 6 #[.int .i64 a, .int .i64 b] w fun e w' => e = .returned (.bool true) ∧ Below w.heap.size w w' := by
  go_enter Try.func6, Try.ntmps6
  go_wp2_with fail
  refine (add_any a b _ ha ha' hb hb').mono ?_
  rintro e w1 ⟨rfl, rfl⟩
  go_wp2_with fail
  refine (rAdd_any a b _ ha ha' hb hb').mono ?_
  rintro e w1 ⟨rfl, h1⟩
  go_wp2_with fail
  refine (sub_any a b _ ha ha' hb hb').mono ?_
  rintro e w2 ⟨rfl, rfl⟩
  go_wp2_with fail
  refine (rSub_any a b _ ha ha' hb hb').mono ?_
  rintro e w2 ⟨rfl, h2⟩
  go_wp2_with fail
  refine (neg_any a _ ha ha').mono ?_
  rintro e w3 ⟨rfl, rfl⟩
  go_wp2_with fail
  refine (rNeg_any a _ ha ha').mono ?_
  rintro e w3 ⟨rfl, h3⟩
  go_wp2_with fail
  refine (abs_any b _ hb hb').mono ?_
  rintro e w4 ⟨rfl, rfl⟩
  go_wp2_with fail
  refine (rAbs_any b _ hb hb').mono ?_
  rintro e w4 ⟨rfl, h4⟩
  have hs1 := h1.size
  have hs2 := h2.size
  have hs3 := h3.size
  have HB := Lib.hid (((h1.trans (h2.mono hs1)).trans (h3.mono (by omega))).trans (h4.mono (by omega)))
  clear h1 h2 h3 h4
  go_wp2
  go_ret
  exact ⟨rfl, HB.out⟩
end Go.Proofs.Yteacmlddgagocaa
