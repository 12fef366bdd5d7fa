/- The walk through the law NumPowers. -/
import Derived.Test.YteacmlddgagocaaRef16
import Derived.Test.YteacmlddgagocaaNum3
namespace Go.Proofs.Yteacmlddgagocaa
open Go.RowKit

set_option maxRecDepth 100000 in
set_option maxHeartbeats 2000000 in
theorem powers_neg (a n : Int) (w : World) (h0 : n < 0) :
    Calls Try.prog 11 #[.int .i64 a, .int .i64 n] w fun e w' => e = .returned (.bool true) ∧ Below w.heap.size w w' := by
  go_enter Try.func11, Try.ntmps11
  go_wp2_with fail
  refine (pow_neg a n _ h0).mono ?_
  rintro e wx ⟨rfl, rfl⟩
  go_wp2_with fail
  refine (rPow_neg a n _ h0).mono ?_
  rintro e w1 ⟨rfl, h1⟩
  have s1 := h1.size
  go_wp2_with fail
  refine (shl_neg a n _ h0).mono ?_
  rintro e wx ⟨rfl, rfl⟩
  go_wp2_with fail
  refine (rShl_neg a n _ h0).mono ?_
  rintro e w2 ⟨rfl, h2⟩
  have s2 := h2.size
  go_wp2_with fail
  refine (shr_neg a n _ h0).mono ?_
  rintro e wx ⟨rfl, rfl⟩
  go_wp2_with fail
  refine (rShr_neg a n _ h0).mono ?_
  rintro e w3 ⟨rfl, h3⟩
  have s3 := h3.size
  have HB := Lib.hid ((h1.trans (h2.mono (by omega))).trans (h3.mono (by omega)))
  clear h1 h2 h3
  go_wp2
  go_ret
  exact ⟨rfl, HB.out⟩
set_option maxRecDepth 100000 in
set_option maxHeartbeats 2000000 in
theorem powers_pos (a n : Int) (w : World) (ha : -9223372036854775808 ≤ a) (ha' : a ≤ 9223372036854775807) (hn' : n ≤ 9223372036854775807) (h0 : 0 ≤ n) :
    Calls Try.prog 11 #[.int .i64 a, .int .i64 n] w fun e w' => e = .returned (.bool true) ∧ Below w.heap.size w w' := by
  go_enter Try.func11, Try.ntmps11
  go_wp2_with fail
  refine (pow_any a n _ h0 hn' ha ha').mono ?_
  rintro e wx ⟨rfl, rfl⟩
  go_wp2_with fail
  refine (rPow_any a n _ h0 hn' ha ha').mono ?_
  rintro e w1 ⟨rfl, h1⟩
  have s1 := h1.size
  go_wp2_with fail
  refine (shl_any a n _ h0).mono ?_
  rintro e wx ⟨rfl, rfl⟩
  go_wp2_with fail
  refine (rShl_any a n _ h0 hn' ha ha').mono ?_
  rintro e w2 ⟨rfl, h2⟩
  have s2 := h2.size
  go_wp2_with fail
  refine (shr_any a n _ h0 hn').mono ?_
  rintro e wx ⟨rfl, rfl⟩
  go_wp2_with fail
  refine (rShr_any a n _ h0 hn' ha ha').mono ?_
  rintro e w3 ⟨rfl, h3⟩
  have s3 := h3.size
  have HB := Lib.hid ((h1.trans (h2.mono (by omega))).trans (h3.mono (by omega)))
  clear h1 h2 h3
  go_wp2
  go_ret
  exact ⟨rfl, HB.out⟩
theorem powers_any (a n : Int) (w : World) (ha : -9223372036854775808 ≤ a) (ha' : a ≤ 9223372036854775807) (hn' : n ≤ 9223372036854775807) :
    Calls Try.prog 11 #[.int .i64 a, .int .i64 n] w fun e w' => e = .returned (.bool true) ∧ Below w.heap.size w w' := by
  rcases Int.lt_or_le n 0 with h | h
  · exact powers_neg a n w h
  · exact powers_pos a n w ha ha' hn' h
end Go.Proofs.Yteacmlddgagocaa
