/- The walk through the law NumGcds. -/
import Derived.Test.YteacmlddgagocaaRef15
import Derived.Test.YteacmlddgagocaaNum3
namespace Go.Proofs.Yteacmlddgagocaa
open Go.RowKit

set_option maxRecDepth 100000 in
set_option maxHeartbeats 2000000 in
theorem gcds_in (a b g : Int) (w : World) (ha : -9223372036854775808 ≤ a) (ha' : a ≤ 9223372036854775807) (hb : -9223372036854775808 ≤ b) (hb' : b ≤ 9223372036854775807) (HG : Hid (((Nat.gcd a.natAbs b.natAbs : Nat) : Int) = g)) (HV : Hid (fitV g = g)) (HE : Hid (fitE g = 0)) (hg : 0 < g) (hg2 : g ≤ 9223372036854775807) (h1 : a.tmod g = 0) (h2 : b.tmod g = 0) :
    Calls Try.prog 3 #[.int .i64 a, .int .i64 b] w fun e w' => e = .returned (.bool true) ∧ Below w.heap.size w w' := by
  go_enter Try.func3, Try.ntmps3
  go_wp2_with fail
  refine (gcd_any a b _ ha ha' hb hb').mono ?_
  rw [HG.out, HV.out, HE.out]
  rintro e w1 ⟨rfl, h1⟩
  have s1 := h1.size
  go_wp2_with fail
  refine (rGcd_any a b _ ha ha' hb hb').mono ?_
  rw [HG.out, HV.out, HE.out]
  rintro e w2 ⟨rfl, h2⟩
  have s2 := h2.size
  have HB := Lib.hid (h1.trans (h2.mono (by omega)))
  clear h1 h2
  go_wp2
  go_ret
  exact ⟨rfl, HB.out⟩
set_option maxRecDepth 100000 in
set_option maxHeartbeats 2000000 in
theorem gcds_out (a b g : Int) (w : World) (ha : -9223372036854775808 ≤ a) (ha' : a ≤ 9223372036854775807) (hb : -9223372036854775808 ≤ b) (hb' : b ≤ 9223372036854775807) (HG : Hid (((Nat.gcd a.natAbs b.natAbs : Nat) : Int) = g)) (HV : Hid (fitV g = 0)) (HE : Hid (fitE g = 10)) :
    Calls Try.prog 3 #[.int .i64 a, .int .i64 b] w fun e w' => e = .returned (.bool true) ∧ Below w.heap.size w w' := by
  go_enter Try.func3, Try.ntmps3
  go_wp2_with fail
  refine (gcd_any a b _ ha ha' hb hb').mono ?_
  rw [HG.out, HV.out, HE.out]
  rintro e w1 ⟨rfl, h1⟩
  have s1 := h1.size
  go_wp2_with fail
  refine (rGcd_any a b _ ha ha' hb hb').mono ?_
  rw [HG.out, HV.out, HE.out]
  rintro e w2 ⟨rfl, h2⟩
  have s2 := h2.size
  have HB := Lib.hid (h1.trans (h2.mono (by omega)))
  clear h1 h2
  go_wp2
  go_ret
  exact ⟨rfl, HB.out⟩
set_option maxRecDepth 100000 in
set_option maxHeartbeats 2000000 in
theorem gcds_zero (g : Int) (w : World) (HG : Hid (((Nat.gcd (0:Int).natAbs (0:Int).natAbs : Nat) : Int) = g)) (HV : Hid (fitV g = 0)) (HE : Hid (fitE g = 0)) :
    Calls Try.prog 3 #[.int .i64 0, .int .i64 0] w fun e w' => e = .returned (.bool true) ∧ Below w.heap.size w w' := by
  go_enter Try.func3, Try.ntmps3
  go_wp2_with fail
  refine (gcd_any 0 0 _ (by decide) (by decide) (by decide) (by decide)).mono ?_
  rw [HG.out, HV.out, HE.out]
  rintro e w1 ⟨rfl, h1⟩
  have s1 := h1.size
  go_wp2_with fail
  refine (rGcd_any 0 0 _ (by decide) (by decide) (by decide) (by decide)).mono ?_
  rw [HG.out, HV.out, HE.out]
  rintro e w2 ⟨rfl, h2⟩
  have s2 := h2.size
  have HB := Lib.hid (h1.trans (h2.mono (by omega)))
  clear h1 h2
  go_wp2
  go_ret
  exact ⟨rfl, HB.out⟩
theorem gcds_any (a b : Int) (w : World) (ha : -9223372036854775808 ≤ a) (ha' : a ≤ 9223372036854775807) (hb : -9223372036854775808 ≤ b) (hb' : b ≤ 9223372036854775807) :
    Calls Try.prog 3 #[.int .i64 a, .int .i64 b] w fun e w' => e = .returned (.bool true) ∧ Below w.heap.size w w' := by
  by_cases hz : Nat.gcd a.natAbs b.natAbs = 0
  · have h1 := (Nat.gcd_eq_zero_iff.1 hz)
    obtain rfl : a = 0 := by omega
    obtain rfl : b = 0 := by omega
    exact gcds_zero 0 w (Lib.hid rfl) (Lib.hid rfl) (Lib.hid rfl)
  · rcases fit_cases ((Nat.gcd a.natAbs b.natAbs : Nat) : Int) with ⟨h1, h2, h3, h4⟩ | ⟨h1, h2, h3⟩
    · have d1 : ((Nat.gcd a.natAbs b.natAbs : Nat) : Int) ∣ a := Int.ofNat_dvd_left.2 (Nat.gcd_dvd_left _ _)
      have d2 : ((Nat.gcd a.natAbs b.natAbs : Nat) : Int) ∣ b := Int.ofNat_dvd_left.2 (Nat.gcd_dvd_right _ _)
      exact gcds_in a b _ w ha ha' hb hb' (Lib.hid rfl) (Lib.hid h3) (Lib.hid h4) (by omega) h2 (Int.tmod_eq_zero_of_dvd d1) (Int.tmod_eq_zero_of_dvd d2)
    · exact gcds_out a b _ w ha ha' hb hb' (Lib.hid rfl) (Lib.hid h2) (Lib.hid h3)
end Go.Proofs.Yteacmlddgagocaa
