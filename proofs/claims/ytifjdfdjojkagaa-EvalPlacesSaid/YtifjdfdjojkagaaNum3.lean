/- The walks through package num: Gcd, Pow, Shl, Shr. -/
import Derived.Test.YtifjdfdjojkagaaNum2
import Derived.Test.YtifjdfdjojkagaaFit2
import Derived.BigQuiet
import Derived.Deep.QuietTactic
namespace Go.Proofs.Ytifjdfdjojkagaa
open Go.RowKit

set_option maxHeartbeats 400000 in
theorem gcd_any (a b : Int) (w : World) (ha : -9223372036854775808 ≤ a) (ha' : a ≤ 9223372036854775807) (hb : -9223372036854775808 ≤ b) (hb' : b ≤ 9223372036854775807) :
    Calls Try.prog 78 #[.int .i64 a, .int .i64 b] w fun e w' => e = .returned (.tuple #[.int .i64 (fitV (Nat.gcd a.natAbs b.natAbs)), .int .i64 (fitE (Nat.gcd a.natAbs b.natAbs))]) ∧ Below w.heap.size w w' := by
  go_enter Try.func78, Try.ntmps78
  go_wp2_with (first | (go_at_call 69; refine (size_any _ _ (by assumption) (by assumption)).mono ?_; rintro e w' ⟨rfl, rfl⟩))
  go_loopw [6, 8] (fun x y wr => ∃ m n : Nat, m ≤ 9223372036854775808 ∧ n ≤ 9223372036854775808 ∧ x = .int .u64 m ∧ y = .int .u64 n ∧ Nat.gcd m n = Nat.gcd a.natAbs b.natAbs ∧ Below w.heap.size w wr) (fun _ y _ => (intOf y).toNat)
  case atStart => exact ⟨a.natAbs, b.natAbs, by omega, by omega, rfl, rfl, rfl, Below.refl _ _⟩
  case round =>
    obtain ⟨m, n, hm, hn, rfl, rfl, hg, hw⟩ := hrel
    have HG := Lib.hid hg
    clear hg
    by_cases h0 : 0 < n
    · have hmod := Nat.mod_lt m h0
      go_wp2
      go_quiet (fail)
      go_wp2
      go_roundw
      case rel => exact ⟨n, m % n, hn, by omega, rfl, by go_num, by rw [← HG.out, Nat.gcd_comm n, Nat.gcd_comm m n, Nat.gcd_rec n m], below_drewN hw _⟩
      case measure => simp [intOf]; omega
    · go_wp2_with (go_at_call 70; refine (made_any _ _ _ (by omega) (by omega)).mono ?_; rintro e w' ⟨rfl, rfl⟩)
      go_ret2
      have h0 : n = 0 := by omega
      subst h0
      have hg := HG.out
      rw [Nat.gcd_zero_right] at hg
      exact ⟨ret2 (vint (by rw [sgF, hg])) (vint (by rw [sgF, hg])), hw⟩

set_option maxHeartbeats 400000 in
theorem shr_neg (a n : Int) (w : World) (h0 : n < 0) :
    Calls Try.prog 80 #[.int .i64 a, .int .i64 n] w fun e w' => e = .returned (.tuple #[.int .i64 0, .int .i64 1]) ∧ w = w' := by
  go_enter Try.func80, Try.ntmps80
  go_wp2
  go_ret2
  exact ⟨rfl, rfl⟩
set_option maxHeartbeats 400000 in
theorem shr_any (a n : Int) (w : World) (h0 : 0 ≤ n) (hn : n ≤ 9223372036854775807) :
    Calls Try.prog 80 #[.int .i64 a, .int .i64 n] w fun e w' => e = .returned (.tuple #[.int .i64 (shrS a n), .int .i64 0]) ∧ w = w' := by
  by_cases h : 63 < n
  · have hm : min n.toNat 63 = 63 := by omega
    have hs : a / 9223372036854775808 = shrS a n := by unfold shrS; rw [hm]; rfl
    have HS := Lib.hid hs
    clear hs hm
    go_enter Try.func80, Try.ntmps80
    go_wp2
    go_ret2
    exact ⟨ret2 (vint (by first | exact HS.out | (unfold shrS; rw [show (min n 63).toNat = min n.toNat 63 by omega]))) rfl, rfl⟩
  · have hm : min n.toNat 63 = n.toNat := by omega
    have hs : a / 2 ^ n.toNat = shrS a n := by unfold shrS; rw [hm]
    have HS := Lib.hid hs
    clear hs hm
    go_enter Try.func80, Try.ntmps80
    go_wp2
    go_ret2
    exact ⟨ret2 (vint (by first | exact HS.out | (unfold shrS; rw [show (min n 63).toNat = min n.toNat 63 by omega]))) rfl, rfl⟩

set_option maxHeartbeats 400000 in
theorem shl_neg (a n : Int) (w : World) (h0 : n < 0) :
    Calls Try.prog 79 #[.int .i64 a, .int .i64 n] w fun e w' => e = .returned (.tuple #[.int .i64 0, .int .i64 1]) ∧ w = w' := by
  go_enter Try.func79, Try.ntmps79
  go_wp2
  go_ret2
  exact ⟨rfl, rfl⟩
set_option maxHeartbeats 400000 in
theorem shl_zero (n : Int) (w : World) (h0 : 0 ≤ n) :
    Calls Try.prog 79 #[.int .i64 0, .int .i64 n] w fun e w' => e = .returned (.tuple #[.int .i64 0, .int .i64 0]) ∧ w = w' := by
  go_enter Try.func79, Try.ntmps79
  go_wp2
  go_ret2
  exact ⟨rfl, rfl⟩
set_option maxHeartbeats 400000 in
theorem shl_big (a n : Int) (w : World) (h0 : 63 < n) (hz : (a == 0) = false) :
    Calls Try.prog 79 #[.int .i64 a, .int .i64 n] w fun e w' => e = .returned (.tuple #[.int .i64 0, .int .i64 10]) ∧ w = w' := by
  go_enter Try.func79, Try.ntmps79
  go_wp2
  go_ret2
  exact ⟨rfl, rfl⟩
set_option maxHeartbeats 400000 in
theorem shl_mid (a n : Int) (w : World) (h0 : 0 ≤ n) (hn : n ≤ 63) (hz : (a == 0) = false) :
    Calls Try.prog 79 #[.int .i64 a, .int .i64 n] w fun e w' => e = .returned (.tuple #[.int .i64 (fitV (a * 2 ^ n.toNat)), .int .i64 (fitE (a * 2 ^ n.toNat))]) ∧ w = w' := by
  by_cases hb : wrap64 (a * 2 ^ n.toNat) / 2 ^ n.toNat = a
  · have ho := shl_back (a := a) (n := n.toNat) (by omega) hb
    have hb2 : (wrap64 (a * 2 ^ n.toNat) / 2 ^ n.toNat != a) = false := by simpa using hb
    have HB := Lib.hid ho
    clear hb ho
    go_enter Try.func79, Try.ntmps79
    go_wp2
    go_ret2
    have ho := HB.out
    exact ⟨ret2 (vint (by rw [inV ho]; unfold outR at ho; exact IntWalk.wrap64_in _ ⟨by omega, by omega⟩)) (vint (by rw [inE ho])), rfl⟩
  · have ho := shl_there (a := a) (n := n.toNat) hb
    have hb2 : (wrap64 (a * 2 ^ n.toNat) / 2 ^ n.toNat != a) = true := by simpa using hb
    have HB := Lib.hid ho
    clear hb ho
    go_enter Try.func79, Try.ntmps79
    go_wp2
    go_ret2
    have ho := HB.out
    exact ⟨ret2 (vint (by rw [outV ho])) (vint (by rw [outE ho])), rfl⟩

/-- Shl: as if by 70 at most. -/
theorem shl_any (a n : Int) (w : World) (h0 : 0 ≤ n) :
    Calls Try.prog 79 #[.int .i64 a, .int .i64 n] w fun e w' => e = .returned (.tuple #[.int .i64 (fitV (a * 2 ^ (min n.toNat 70))), .int .i64 (fitE (a * 2 ^ (min n.toNat 70)))]) ∧ w = w' := by
  by_cases hz : a = 0
  · subst hz
    have e0 : fitV (0 * 2 ^ (min n.toNat 70)) = 0 := by rw [Int.zero_mul]; rfl
    have e1 : fitE (0 * 2 ^ (min n.toNat 70)) = 0 := by rw [Int.zero_mul]; rfl
    rw [e0, e1]
    exact shl_zero n w h0
  · have hz2 : (a == 0) = false := by simpa using hz
    by_cases hn : n ≤ 63
    · rw [show min n.toNat 70 = n.toNat by omega]
      exact shl_mid a n w h0 hn hz2
    · have h := shl_min (a := a) (n := min n.toNat 70) (by omega)
      rw [h.1, h.2.1 hz]
      exact shl_big a n w (by omega) hz2

set_option maxHeartbeats 400000 in
theorem pow_neg (a n : Int) (w : World) (h0 : n < 0) :
    Calls Try.prog 77 #[.int .i64 a, .int .i64 n] w fun e w' => e = .returned (.tuple #[.int .i64 0, .int .i64 1]) ∧ w = w' := by
  go_enter Try.func77, Try.ntmps77
  go_wp2
  go_ret2
  exact ⟨rfl, rfl⟩
set_option maxHeartbeats 400000 in
theorem pow_zero_ (a : Int) (w : World) :
    Calls Try.prog 77 #[.int .i64 a, .int .i64 0] w fun e w' => e = .returned (.tuple #[.int .i64 1, .int .i64 0]) ∧ w = w' := by
  go_enter Try.func77, Try.ntmps77
  go_wp2
  go_ret2
  exact ⟨rfl, rfl⟩
set_option maxHeartbeats 400000 in
theorem pow_one_ (n : Int) (w : World) (h0 : 0 < n) :
    Calls Try.prog 77 #[.int .i64 1, .int .i64 n] w fun e w' => e = .returned (.tuple #[.int .i64 1, .int .i64 0]) ∧ w = w' := by
  have hz : (n == 0) = false := by simp; omega
  go_enter Try.func77, Try.ntmps77
  go_wp2
  go_ret2
  exact ⟨rfl, rfl⟩
set_option maxHeartbeats 400000 in
theorem pow_of_zero (n : Int) (w : World) (h0 : 0 < n) :
    Calls Try.prog 77 #[.int .i64 0, .int .i64 n] w fun e w' => e = .returned (.tuple #[.int .i64 0, .int .i64 0]) ∧ w = w' := by
  have hz : (n == 0) = false := by simp; omega
  go_enter Try.func77, Try.ntmps77
  go_wp2
  go_ret2
  exact ⟨rfl, rfl⟩
set_option maxHeartbeats 400000 in
theorem pow_m1 (n : Int) (w : World) (h0 : 0 < n) (hn : n ≤ 9223372036854775807) :
    Calls Try.prog 77 #[.int .i64 (-1), .int .i64 n] w fun e w' => e = .returned (.tuple #[.int .i64 (1 - n % 2 * 2), .int .i64 0]) ∧ w = w' := by
  have hz : (n == 0) = false := by simp; omega
  go_enter Try.func77, Try.ntmps77
  go_wp2
  go_ret2
  exact ⟨rfl, rfl⟩
set_option maxHeartbeats 400000 in
theorem pow_big (a n : Int) (w : World) (h0 : 63 < n) (h2 : 2 ≤ a.natAbs) :
    Calls Try.prog 77 #[.int .i64 a, .int .i64 n] w fun e w' => e = .returned (.tuple #[.int .i64 0, .int .i64 10]) ∧ w = w' := by
  have hz : (n == 0) = false := by simp; omega
  have hz0 : (a == 0) = false := by simp; omega
  have hz1 : (a == 1) = false := by simp; omega
  have hz2 : (a == -1) = false := by simp; omega
  go_enter Try.func77, Try.ntmps77
  go_wp2
  go_ret2
  exact ⟨rfl, rfl⟩
set_option maxHeartbeats 400000 in
theorem pow_mid (a : Int) (n : Nat) (w : World) (h0 : 0 < n) (hn : n ≤ 63) (ha : -9223372036854775808 ≤ a) (ha' : a ≤ 9223372036854775807) (h2 : 2 ≤ a.natAbs) :
    Calls Try.prog 77 #[.int .i64 a, .int .i64 (n : Int)] w fun e w' => e = .returned (.tuple #[.int .i64 (fitV (a ^ n)), .int .i64 (fitE (a ^ n))]) ∧ w = w' := by
  have hz : ((n : Int) == 0) = false := by simp; omega
  have hz0 : (a == 0) = false := by simp; omega
  have hz1 : (a == 1) = false := by simp; omega
  have hz2 : (a == -1) = false := by simp; omega
  go_enter Try.func77, Try.ntmps77
  go_wp2
  go_loop [6, 33] (fun o i => ∃ k : Nat, k ≤ n ∧ i = .int .i64 k ∧ o = .int .i64 (a ^ k) ∧ ¬ outR (a ^ k)) (fun _ i => n - (intOf i).toNat)
  case atStart => exact ⟨0, Nat.zero_le _, rfl, vint (Int.pow_zero a).symm, by unfold outR; simp⟩
  case round =>
    obtain ⟨k, hk, rfl, rfl, ho⟩ := hrel
    by_cases hlt : k < n
    · have hr : -9223372036854775808 ≤ a ^ k ∧ a ^ k ≤ 9223372036854775807 := by unfold outR at ho; omega
      have hs : a ^ k * a = a ^ (k + 1) := (Int.pow_succ ..).symm
      have HO := Lib.hid ho
      clear ho
      by_cases ho2 : outR (a ^ (k + 1))
      · have hv := outV ho2
        have he := outE ho2
        have HV := Lib.hid (outV (pow_out h2 (show k + 1 ≤ n by omega) ho2))
        have HE := Lib.hid (outE (pow_out h2 (show k + 1 ≤ n by omega) ho2))
        have HO2 := Lib.hid ho2
        clear ho2
        go_wp2_with (go_at_call 72; refine (mul_any _ _ _ hr.1 hr.2 ha ha').mono ?_; rintro e w' ⟨rfl, rfl⟩)
        go_ret2
        exact ⟨ret2 (vint HV.out.symm) (vint HE.out.symm), rfl⟩
      · have hv := inV ho2
        have he := inE ho2
        have HO2 := Lib.hid ho2
        clear ho2
        go_wp2_with (go_at_call 72; refine (mul_any _ _ _ hr.1 hr.2 ha ha').mono ?_; rintro e w' ⟨rfl, rfl⟩)
        go_round
        case rel => exact ⟨k + 1, by omega, by go_num, rfl, HO2.out⟩
        case measure => simp [intOf]; omega
    · have : k = n := by omega
      subst this
      have HV := Lib.hid (inV ho)
      have HE := Lib.hid (inE ho)
      clear ho
      go_wp2
      go_ret2
      exact ⟨ret2 (vint HV.out.symm) (vint HE.out.symm), rfl⟩

/-- Pow: the power, where it fits. -/
theorem pow_any (a n : Int) (w : World) (h0 : 0 ≤ n) (hn : n ≤ 9223372036854775807) (ha : -9223372036854775808 ≤ a) (ha' : a ≤ 9223372036854775807) :
    Calls Try.prog 77 #[.int .i64 a, .int .i64 n] w fun e w' => e = .returned (.tuple #[.int .i64 (fitV (a ^ n.toNat)), .int .i64 (fitE (a ^ n.toNat))]) ∧ w = w' := by
  by_cases hz : n = 0
  · subst hz
    rw [show Int.toNat 0 = 0 from rfl, Int.pow_zero]
    exact pow_zero_ a w
  by_cases h1 : a = 1
  · subst h1
    rw [one_pow_]
    exact pow_one_ n w (by omega)
  by_cases h2 : a = 0
  · subst h2
    rw [zero_pow_ _ (by omega)]
    exact pow_of_zero n w (by omega)
  by_cases h3 : a = -1
  · subst h3
    rw [m1_pow, fitV_in (by omega) (by omega), fitE_in (by omega) (by omega), Int.toNat_of_nonneg h0]
    exact pow_m1 n w (by omega) hn
  by_cases h4 : 63 < n
  · have ho := pow_far (a := a) (n := n.toNat) (by omega) (by omega)
    rw [outV ho, outE ho]
    exact pow_big a n w h4 (by omega)
  · obtain ⟨k, rfl⟩ := Int.eq_ofNat_of_zero_le h0
    exact pow_mid a k w (by omega) (by omega) ha ha' (by omega)
end Go.Proofs.Ytifjdfdjojkagaa
