/- Plain words on powers and shifts of integers. No program in sight. -/
import Derived.Test.YtifjdfdjojkagaaFit
import Derived.RowKit
namespace Go.Proofs.Ytifjdfdjojkagaa
open Go.RowKit

def outR (x : Int) : Prop := x < -9223372036854775808 ∨ 9223372036854775807 < x

theorem two_pow_63 (n : Nat) (h : n ≤ 63) : (2 : Int) ^ n ≤ 9223372036854775808 := by
  have h1 : (2 : Nat) ^ n ≤ 2 ^ 63 := Nat.pow_le_pow_right (by omega) h
  have h2 : ((2 ^ n : Nat) : Int) = (2 : Int) ^ n := by simp
  have h3 : (2 : Nat) ^ 63 = 9223372036854775808 := by decide
  omega
theorem two_pow_pos (n : Nat) : (0 : Int) < 2 ^ n := by
  have h1 : 0 < (2 : Nat) ^ n := Nat.pow_pos (by omega)
  have h2 : ((2 ^ n : Nat) : Int) = (2 : Int) ^ n := by simp
  omega

theorem shl_back {a : Int} {n : Nat} (h : n ≤ 63) (hb : wrap64 (a * 2 ^ n) / 2 ^ n = a) : ¬ outR (a * 2 ^ n) := by
  have hp := two_pow_pos n
  have hq := two_pow_63 n h
  have h1 := Int.mul_ediv_add_emod (wrap64 (a * 2 ^ n)) (2 ^ n)
  have h2 := Int.emod_nonneg (wrap64 (a * 2 ^ n)) (show (2 : Int) ^ n ≠ 0 by omega)
  have h3 := Int.emod_lt_of_pos (wrap64 (a * 2 ^ n)) hp
  rw [hb, Int.mul_comm] at h1
  generalize a * 2 ^ n = X at *
  generalize (2 : Int) ^ n = m at *
  unfold outR
  unfold wrap64 at *
  omega
theorem shl_there {a : Int} {n : Nat} (hb : ¬ wrap64 (a * 2 ^ n) / 2 ^ n = a) : outR (a * 2 ^ n) := by
  have hp := two_pow_pos n
  have h1 := Int.mul_ediv_cancel a (show (2 : Int) ^ n ≠ 0 by omega)
  apply Classical.byContradiction
  intro ho
  apply hb
  have h2 : wrap64 (a * 2 ^ n) = a * 2 ^ n := by
    unfold outR at ho
    unfold wrap64
    omega
  rw [h2, h1]
theorem shl_far {a : Int} {n : Nat} (h0 : ¬ a = 0) (h : 64 ≤ n) : outR (a * 2 ^ n) := by
  have h1 : (2 : Nat) ^ 64 ≤ 2 ^ n := Nat.pow_le_pow_right (by omega) h
  have h2 : (2 : Nat) ^ 64 = 18446744073709551616 := by decide
  have h3 : (a * 2 ^ n).natAbs = a.natAbs * 2 ^ n := by rw [Int.natAbs_mul, Int.natAbs_pow]; rfl
  have h4 : 1 * 2 ^ n ≤ a.natAbs * 2 ^ n := Nat.mul_le_mul_right _ (by omega)
  unfold outR
  omega
theorem outV {x : Int} (h : outR x) : fitV x = 0 := fitV_out h
theorem outE {x : Int} (h : outR x) : fitE x = 10 := fitE_out h
theorem inV {x : Int} (h : ¬ outR x) : fitV x = x := fitV_in (by unfold outR at h; omega) (by unfold outR at h; omega)
theorem inE {x : Int} (h : ¬ outR x) : fitE x = 0 := fitE_in (by unfold outR at h; omega) (by unfold outR at h; omega)

/-- A shift to the left is as if by 70 at most. -/
theorem shl_min {a : Int} {n : Nat} (h : 64 ≤ n) : fitV (a * 2 ^ n) = 0 ∧ (¬ a = 0 → fitE (a * 2 ^ n) = 10) ∧ (a = 0 → fitE (a * 2 ^ n) = 0) := by
  by_cases h0 : a = 0
  · subst h0
    refine ⟨by rw [Int.zero_mul]; rfl, fun h => absurd rfl h, fun _ => by rw [Int.zero_mul]; rfl⟩
  · exact ⟨outV (shl_far h0 h), fun _ => outE (shl_far h0 h), fun h => absurd h h0⟩

theorem natAbs_pow_le {a : Int} {j n : Nat} (h2 : 2 ≤ a.natAbs) (hj : j < n) : 2 * (a ^ j).natAbs ≤ (a ^ n).natAbs := by
  rw [Int.natAbs_pow, Int.natAbs_pow]
  have h1 : a.natAbs ^ (j + 1) ≤ a.natAbs ^ n := Nat.pow_le_pow_right (by omega) hj
  rw [Nat.pow_succ] at h1
  have h3 : a.natAbs ^ j * 2 ≤ a.natAbs ^ j * a.natAbs := Nat.mul_le_mul_left _ h2
  omega
theorem pow_out {a : Int} {j n : Nat} (h2 : 2 ≤ a.natAbs) (hj : j ≤ n) (h : outR (a ^ j)) : outR (a ^ n) := by
  rcases Nat.lt_or_ge j n with hlt | hge
  · have h1 := natAbs_pow_le h2 hlt
    unfold outR at *
    omega
  · have : j = n := by omega
    subst this
    exact h
theorem pow_far {a : Int} {n : Nat} (h2 : 2 ≤ a.natAbs) (h : 64 ≤ n) : outR (a ^ n) := by
  have h1 : (a ^ n).natAbs = a.natAbs ^ n := Int.natAbs_pow a n
  have h3 : 2 ^ n ≤ a.natAbs ^ n := Nat.pow_le_pow_left h2 n
  have h4 : (2 : Nat) ^ 64 ≤ 2 ^ n := Nat.pow_le_pow_right (by omega) h
  have h5 : (2 : Nat) ^ 64 = 18446744073709551616 := by decide
  unfold outR
  omega
theorem one_pow_ (n : Nat) : (1 : Int) ^ n = 1 := Int.one_pow
theorem zero_pow_ (n : Nat) (h : ¬ n = 0) : (0 : Int) ^ n = 0 := Int.zero_pow h
theorem m1_pow (n : Nat) : (-1 : Int) ^ n = 1 - (n : Int) % 2 * 2 := by
  induction n with
  | zero => rfl
  | succ n ih => rw [Int.pow_succ, ih]; omega

/-- A shift to the right, down. -/
def shrS (a n : Int) : Int := a / 2 ^ (min n.toNat 63)
end Go.Proofs.Ytifjdfdjojkagaa
