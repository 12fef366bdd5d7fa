/- The walk through the law NumPowerSums. -/
import Derived.Test.YteacmlddgagocaaRef16
import Derived.Test.YteacmlddgagocaaNum3
namespace Go.Proofs.Yteacmlddgagocaa
open Go.RowKit

theorem pow_le_128 {a : Int} (ha : -128 ≤ a) (ha' : a ≤ 127) {i : Nat} (hi : i ≤ 7) : (a ^ i).natAbs ≤ 562949953421312 := by
  rw [Int.natAbs_pow]
  exact Nat.le_trans (Nat.pow_le_pow_left (show a.natAbs ≤ 128 by omega) i) (Nat.le_trans (Nat.pow_le_pow_right (by decide) hi) (by decide))
theorem shl_le_128 {a : Int} (ha : -128 ≤ a) (ha' : a ≤ 127) {i : Nat} (hi : i ≤ 49) : (a * 2 ^ i).natAbs ≤ 72057594037927936 := by
  rw [Int.natAbs_mul, Int.natAbs_pow]
  exact Nat.le_trans (Nat.mul_le_mul (show a.natAbs ≤ 128 by omega) (Nat.pow_le_pow_right (by decide) hi)) (by decide)

set_option maxRecDepth 100000 in
set_option maxHeartbeats 2000000 in
theorem psums_core (a m n b p q r l : Int) (w : World) (ha : -128 ≤ a) (ha' : a ≤ 127) (hm : 0 ≤ m) (hm' : m ≤ 255) (hn : 0 ≤ n) (hn' : n ≤ 255) (hb : 0 ≤ b) (hb' : b ≤ 255)
    (V1 : Hid (fitV (a ^ (m % 6).toNat) = p)) (E1 : Hid (fitE (a ^ (m % 6).toNat) = 0))
    (V2 : Hid (fitV (a ^ (n % 3).toNat) = q)) (E2 : Hid (fitE (a ^ (n % 3).toNat) = 0))
    (V3 : Hid (fitV (a ^ (m % 6 + n % 3).toNat) = r)) (E3 : Hid (fitE (a ^ (m % 6 + n % 3).toNat) = 0))
    (V4 : Hid (fitV (p * q) = r)) (E4 : Hid (fitE (p * q) = 0))
    (V5 : Hid (fitV (a * 2 ^ (min (b % 50).toNat 70)) = l)) (E5 : Hid (fitE (a * 2 ^ (min (b % 50).toNat 70)) = 0))
    (V6 : Hid (shrS l (b % 50) = a)) (bp : -9223372036854775808 ≤ p ∧ p ≤ 9223372036854775807) (bq : -9223372036854775808 ≤ q ∧ q ≤ 9223372036854775807)  :
    Calls Try.prog 10 #[.int .i8 a, .int .u8 m, .int .u8 n, .int .u8 b] w fun e w' => e = .returned (.bool true) ∧ Below w.heap.size w w' := by
  go_enter Try.func10, Try.ntmps10
  go_wp2_with fail
  refine (pow_any a _ _ (by omega) (by omega) (by omega) (by omega)).mono ?_
  rw [V1.out, E1.out]
  rintro e wx ⟨rfl, rfl⟩
  go_wp2_with fail
  refine (pow_any a _ _ (by omega) (by omega) (by omega) (by omega)).mono ?_
  rw [V2.out, E2.out]
  rintro e wx ⟨rfl, rfl⟩
  go_wp2_with fail
  refine (pow_any a _ _ (by omega) (by omega) (by omega) (by omega)).mono ?_
  rw [V3.out, E3.out]
  rintro e wx ⟨rfl, rfl⟩
  go_wp2_with fail
  refine (mul_any p q _ bp.1 bp.2 bq.1 bq.2).mono ?_
  rw [V4.out, E4.out]
  rintro e wx ⟨rfl, rfl⟩
  go_wp2_with fail
  refine (shl_any a _ _ (by omega)).mono ?_
  rw [V5.out, E5.out]
  rintro e wx ⟨rfl, rfl⟩
  go_wp2_with fail
  refine (shr_any l _ _ (by omega) (by omega)).mono ?_
  rw [V6.out]
  rintro e wx ⟨rfl, rfl⟩
  go_wp2_with fail
  refine (rPow_any a _ _ (by omega) (by omega) (by omega) (by omega)).mono ?_
  rw [V3.out, E3.out]
  rintro e w1 ⟨rfl, h1⟩
  have HB := Lib.hid h1
  clear h1
  go_wp2
  go_ret
  exact ⟨rfl, HB.out⟩

theorem psums_any (a m n b : Int) (w : World) (ha : -128 ≤ a) (ha' : a ≤ 127) (hm : 0 ≤ m) (hm' : m ≤ 255) (hn : 0 ≤ n) (hn' : n ≤ 255) (hb : 0 ≤ b) (hb' : b ≤ 255) :
    Calls Try.prog 10 #[.int .i8 a, .int .u8 m, .int .u8 n, .int .u8 b] w fun e w' => e = .returned (.bool true) ∧ Below w.heap.size w w' := by
  have b1 := pow_le_128 ha ha' (show (m % 6).toNat ≤ 7 by omega)
  have b2 := pow_le_128 ha ha' (show (n % 3).toNat ≤ 7 by omega)
  have b3 := pow_le_128 ha ha' (show (m % 6 + n % 3).toNat ≤ 7 by omega)
  have b5 := shl_le_128 ha ha' (show (b % 50).toNat ≤ 49 by omega)
  have hmin : min (b % 50).toNat 70 = (b % 50).toNat := by omega
  have hmin2 : min (b % 50).toNat 63 = (b % 50).toNat := by omega
  have hpq : a ^ (m % 6).toNat * a ^ (n % 3).toNat = a ^ (m % 6 + n % 3).toNat := by
    rw [← Int.pow_add, ← Int.toNat_add (by omega) (by omega)]
  refine psums_core a m n b (a ^ (m % 6).toNat) (a ^ (n % 3).toNat) (a ^ (m % 6 + n % 3).toNat) (a * 2 ^ (b % 50).toNat) w ha ha' hm hm' hn hn' hb hb' (fitV_in (by omega) (by omega)) (fitE_in (by omega) (by omega)) (fitV_in (by omega) (by omega)) (fitE_in (by omega) (by omega))
    (fitV_in (by omega) (by omega)) (fitE_in (by omega) (by omega)) ?_ ?_ ?_ ?_ ?_ ⟨by omega, by omega⟩ ⟨by omega, by omega⟩
  · rw [hpq]; exact fitV_in (by omega) (by omega)
  · rw [hpq]; exact fitE_in (by omega) (by omega)
  · rw [hmin]; exact fitV_in (by omega) (by omega)
  · rw [hmin]; exact fitE_in (by omega) (by omega)
  · show shrS _ _ = a
    unfold shrS
    rw [hmin2]
    exact Int.mul_ediv_cancel _ (by have := two_pow_pos (b % 50).toNat; omega)
end Go.Proofs.Yteacmlddgagocaa
