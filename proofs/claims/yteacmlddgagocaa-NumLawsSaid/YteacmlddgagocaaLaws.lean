/- The walk through the law NumLaws. -/
import Derived.Test.YteacmlddgagocaaNum1
import Derived.Deep.DeepMust
namespace Go.Proofs.Yteacmlddgagocaa
open Go.RowKit

theorem mul_bd {x z : Int} {B : Nat} (hx : x.natAbs ≤ B) (hz : z.natAbs ≤ 1023) : (x * z).natAbs ≤ B * 1023 := by
  rw [Int.natAbs_mul]; exact Nat.mul_le_mul hx hz
theorem tmod_1024 (c : Int) : (c.tmod 1024).natAbs ≤ 1023 := by
  have h := (tmod_bd c 1024 (by omega)).1
  have : (1024 : Int).natAbs = 1024 := rfl
  omega

set_option maxRecDepth 100000 in
set_option maxHeartbeats 1000000 in
theorem laws_any (x y c : Int) (w : World) (hx : -2147483648 ≤ x) (hx' : x ≤ 2147483647) (hy : -2147483648 ≤ y) (hy' : y ≤ 2147483647) (hc : -2147483648 ≤ c) (hc' : c ≤ 2147483647) :
    Calls Try.prog 8 #[.int .i32 x, .int .i32 y, .int .i32 c] w fun e w' => e = .returned (.bool true) ∧ w = w' := by
  have tz := tmod_1024 c
  have t1 := mul_bd (x := x) (z := c.tmod 1024) (B := 2147483648) (by omega) tz
  have t2 := mul_bd (x := y) (z := c.tmod 1024) (B := 2147483648) (by omega) tz
  have t3 := mul_bd (x := x + y) (z := c.tmod 1024) (B := 4294967296) (by omega) tz
  have eq := Int.add_mul x y (c.tmod 1024)
  have z1 : -9223372036854775808 ≤ c.tmod 1024 ∧ c.tmod 1024 ≤ 9223372036854775807 := by omega
  have v1 : fitV (x + y) = x + y := fitV_in (by omega) (by omega)
  have e1 : fitE (x + y) = 0 := fitE_in (by omega) (by omega)
  have v2 : fitV (y + x) = x + y := by rw [Int.add_comm, v1]
  have e2 : fitE (y + x) = 0 := by rw [Int.add_comm, e1]
  have v3 : fitV ((x + y) * c.tmod 1024) = x * c.tmod 1024 + y * c.tmod 1024 := by rw [fitV_in (by omega) (by omega), eq]
  have e3 : fitE ((x + y) * c.tmod 1024) = 0 := fitE_in (by omega) (by omega)
  have v4 : fitV (x * c.tmod 1024) = x * c.tmod 1024 := fitV_in (by omega) (by omega)
  have e4 : fitE (x * c.tmod 1024) = 0 := fitE_in (by omega) (by omega)
  have v5 : fitV (y * c.tmod 1024) = y * c.tmod 1024 := fitV_in (by omega) (by omega)
  have e5 : fitE (y * c.tmod 1024) = 0 := fitE_in (by omega) (by omega)
  have v6 : fitV (x * c.tmod 1024 + y * c.tmod 1024) = x * c.tmod 1024 + y * c.tmod 1024 := by rw [← eq, v3, eq]
  have e6 : fitE (x * c.tmod 1024 + y * c.tmod 1024) = 0 := by rw [← eq, e3]
  have f1 : (x * c.tmod 1024 + y * c.tmod 1024 == (x + y) * c.tmod 1024) = true := by rw [eq]; simp
  have b1 : -9223372036854775808 ≤ x * c.tmod 1024 ∧ x * c.tmod 1024 ≤ 9223372036854775807 := by omega
  have b2 : -9223372036854775808 ≤ y * c.tmod 1024 ∧ y * c.tmod 1024 ≤ 9223372036854775807 := by omega
  have b3 : -9223372036854775808 ≤ (x + y) * c.tmod 1024 ∧ (x + y) * c.tmod 1024 ≤ 9223372036854775807 := by omega
  clear eq t1 t2 t3 tz
  go_enter Try.func8, Try.ntmps8
  go_wp2_with (first
    | (go_at_call 22; refine (add_any _ _ _ (by omega) (by omega) (by omega) (by omega)).mono ?_; rintro e w' ⟨rfl, rfl⟩)
    | (go_at_call 30; go_must (refine (mul_any _ _ _ (by omega) (by omega) (by omega) (by omega)).mono ?_); rintro e w' ⟨rfl, rfl⟩))
  go_ret
  exact ⟨congrArg Ending.returned (vbool (by first | rfl | (simp; done) | (simp; omega))), rfl⟩
end Go.Proofs.Yteacmlddgagocaa
