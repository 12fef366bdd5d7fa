/- The walk through coneyref01.power. -/
import Derived.Test.YtifjdfdjojkagaaRef8
namespace Go.Proofs.Ytifjdfdjojkagaa
open Go.RowKit Dg

/-- The digits of 2 to the n. -/
def pow2 (n : Nat) : List Nat := (List.replicate (n / 15 + 1) 0).set (n / 15) (2 ^ (n % 15))
theorem pow2_val (n : Nat) : val (pow2 n) = 2 ^ n := by
  have h := val_set (List.replicate (n / 15 + 1) 0) (n / 15) (2 ^ (n % 15)) (by simp)
  have h0 : (List.replicate (n / 15 + 1) 0).getD (n / 15) 0 = 0 := by
    rw [List.getD_eq_getElem?_getD, List.getElem?_replicate]; split <;> rfl
  rw [h0, val_replicate_zero, Nat.mul_zero, Nat.add_zero, Nat.zero_add] at h
  unfold pow2
  rw [h, show (32768 : Nat) = 2 ^ 15 from by decide, ← Nat.pow_mul, ← Nat.pow_add, Nat.div_add_mod]
theorem pow2_at (n j : Nat) : (pow2 n).getD j 0 = if j = n / 15 then 2 ^ (n % 15) else 0 := by
  unfold pow2
  rw [getD_set _ _ _ _ (by simp)]
  split
  · rfl
  · rw [List.getD_eq_getElem?_getD, List.getElem?_replicate]; split <;> rfl
theorem pow2_digit (n : Nat) : 2 ^ (n % 15) < 32768 ∧ 2 ^ (n % 15) ≠ 0 := by
  have h1 : 2 ^ (n % 15) ≤ 2 ^ 14 := Nat.pow_le_pow_right (by omega) (by omega)
  have h2 : (2 : Nat) ^ 14 = 16384 := by decide
  have h3 : 0 < 2 ^ (n % 15) := Nat.pow_pos (by omega)
  omega
theorem pow2_ok (n : Nat) : Ok (pow2 n) := ok_of_getD fun j => by
  rw [pow2_at]
  have := pow2_digit n
  split <;> omega
theorem pow2_len (n : Nat) : (pow2 n).length = n / 15 + 1 := by simp [pow2]
theorem pow2_norm (n : Nat) : Norm (pow2 n) := by
  intro d hd
  have h1 : (pow2 n).getLast? = some ((pow2 n).getD (n / 15) 0) := by
    rw [List.getLast?_eq_getElem?, pow2_len, Nat.add_sub_cancel, List.getD_eq_getElem?_getD, List.getElem?_eq_getElem (by rw [pow2_len]; omega)]
    rfl
  rw [h1, pow2_at, if_pos rfl] at hd
  injection hd with hd
  have := pow2_digit n
  omega

set_option maxHeartbeats 1000000 in
theorem power_any (n : Nat) (w : World) (hn : n ≤ 1000) :
    Calls Try.prog 55 #[.int .i64 (n : Int)] w
      fun e w' => (∃ R k r, k = n / 15 + 1 ∧ e = .returned (.slice R k r) ∧ Num w' w'.heap.size R k r (2 ^ n)) ∧ Below w.heap.size w w' := by
  have hmk := mk_ints ((n : Int) / 15 + 1) (n / 15 + 1) (by omega) (by omega)
  have hcell : (cellsOf (List.replicate (n / 15 + 1) 0))[n / 15]? = some (.int .i64 0) := by simp [cellsOf]
  have hdg := pow2_digit n
  have hc2 : ((2 ^ (n % 15) : Nat) : Int) = (2 : Int) ^ (n % 15) := by simp
  have hp : (2 : Int) ^ (n % 15) ≤ 32768 := by rw [← hc2]; exact Int.ofNat_le.mpr (Nat.le_of_lt hdg.1)
  have hp0 : 0 ≤ (2 : Int) ^ (n % 15) := by rw [← hc2]; exact Int.natCast_nonneg _
  have HC := Lib.hid hc2
  clear hc2 hdg
  go_enter Try.func55, Try.ntmps55
  go_wp2
  go_ret
  refine ⟨⟨some ⟨w.heap.size, 0, none⟩, n / 15 + 1, n / 15 + 1, rfl, rfl, pow2 n, ⟨pow2_len n, Nat.le_refl _, fun h => by (cases h), pow2_ok n, fun _ => ⟨w.heap.size, 0, (cellsOf (pow2 n)).toArray, rfl, by simp, ?_, fun j hj => ?_⟩⟩, pow2_norm n, pow2_val n⟩, (Below.refl _ _).alloc (Nat.le_refl _) _⟩
  · refine (heap_at _ _ rfl).trans ?_
    rw [← HC.out]
    simp [cellsOf, pow2, List.map_set]
  · simp [cellsOf, List.getD_eq_getElem?_getD, List.getElem?_eq_getElem (show j < (pow2 n).length by rw [pow2_len]; omega)]
end Go.Proofs.Ytifjdfdjojkagaa
