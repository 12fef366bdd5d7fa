/- The walks through package num: size, made, Add, Sub, Neg, Abs, Mul. -/
import Derived.Test.YtifjdfdjojkagaaProg
import Derived.Test.YtifjdfdjojkagaaFit
import Derived.Test.YtifjdfdjojkagaaShelf
import Derived.WalkKit
import Derived.Deep.Draws
import Derived.WalkSpells
import Derived.WalkLawsBesides
namespace Go.Proofs.Ytifjdfdjojkagaa
open Go.RowKit

theorem below_drewN {B : Nat} {a w : World} (h : Below B a w) (n : Nat) : Below B a (w.drewN n) := ⟨h.os, h.tape, h.output, h.size, h.block⟩
theorem ret2 {u1 u2 v1 v2 : Value} (h1 : u1 = v1) (h2 : u2 = v2) : Ending.returned (.tuple #[u1, u2]) = .returned (.tuple #[v1, v2]) := by rw [h1, h2]
theorem vint {k : IntKind} {a b : Int} (h : a = b) : Value.int k a = .int k b := by rw [h]
theorem vbool {a b : Bool} (h : a = b) : Value.bool a = .bool b := by rw [h]

set_option maxHeartbeats 400000 in
theorem size_any (a : Int) (w : World) (h : -9223372036854775808 ≤ a) (h' : a ≤ 9223372036854775807) :
    Calls Try.prog 69 #[.int .i64 a] w fun e w' => e = .returned (.tuple #[.int .u64 (a.natAbs : Int), .bool (decide (a < 0))]) ∧ w = w' := by
  by_cases hs : a < 0
  · go_enter Try.func69, Try.ntmps69
    go_wp2
    go_ret2
    exact ⟨ret2 (vint (by rw [IntKind.wrap_u64, IntKind.wrap_u64]; omega)) (vbool (by simp [hs])), rfl⟩
  · go_enter Try.func69, Try.ntmps69
    go_wp2
    go_ret2
    exact ⟨ret2 (vint (by omega)) (vbool (by simp [hs])), rfl⟩

set_option maxHeartbeats 400000 in
theorem made_any (n : Int) (b : Bool) (w : World) (h0 : 0 ≤ n) (h : n ≤ 18446744073709551615) :
    Calls Try.prog 70 #[.int .u64 n, .bool b] w fun e w' => e = .returned (.tuple #[.int .i64 (fitV (sg b n)), .int .i64 (fitE (sg b n))]) ∧ w = w' := by
  cases b
  · by_cases hs : n < 9223372036854775808
    · go_enter Try.func70, Try.ntmps70
      go_wp2
      go_ret2
      exact ⟨ret2 (vint (by rw [sgF, fitV_in (by omega) (by omega)])) (vint (by rw [sgF, fitE_in (by omega) (by omega)])), rfl⟩
    · go_enter Try.func70, Try.ntmps70
      go_wp2
      go_ret2
      exact ⟨ret2 (vint (by rw [sgF, fitV_out (by omega)])) (vint (by rw [sgF, fitE_out (by omega)])), rfl⟩
  · by_cases hs : n ≤ 9223372036854775808
    · go_enter Try.func70, Try.ntmps70
      go_wp2
      go_ret2
      exact ⟨ret2 (vint (by rw [sgT, fitV_in (by omega) (by omega), IntKind.wrap_u64]; unfold wrap64; omega)) (vint (by rw [sgT, fitE_in (by omega) (by omega)])), rfl⟩
    · go_enter Try.func70, Try.ntmps70
      go_wp2
      go_ret2
      exact ⟨ret2 (vint (by rw [sgT, fitV_out (by omega)])) (vint (by rw [sgT, fitE_out (by omega)])), rfl⟩

set_option maxHeartbeats 400000 in
theorem add_any (a b : Int) (w : World) (ha : -9223372036854775808 ≤ a) (ha' : a ≤ 9223372036854775807) (hb : -9223372036854775808 ≤ b) (hb' : b ≤ 9223372036854775807) :
    Calls Try.prog 71 #[.int .i64 a, .int .i64 b] w fun e w' => e = .returned (.tuple #[.int .i64 (fitV (a + b)), .int .i64 (fitE (a + b))]) ∧ w = w' := by
  rcases fit_cases (a + b) with ⟨h1, h2, hv, he⟩ | ⟨h1, hv, he⟩
  · rw [hv, he]; clear hv he
    by_cases hp : 0 < b
    · go_enter Try.func71, Try.ntmps71
      go_wp2
      go_ret2
      exact ⟨rfl, rfl⟩
    · by_cases hz : b = 0
      · subst hz
        go_enter Try.func71, Try.ntmps71
        go_wp2
        go_ret2
        exact ⟨ret2 (vint (by omega)) rfl, rfl⟩
      · go_enter Try.func71, Try.ntmps71
        go_wp2
        go_ret2
        exact ⟨rfl, rfl⟩
  · rw [hv, he]; clear hv he
    by_cases hp : 0 < b
    · have hw : wrap64 (a + b) ≤ a := by unfold wrap64; omega
      have hd : decide (a < wrap64 (a + b)) = false := by simpa using hw
      have hz : (b != 0) = true := by simp; omega
      go_enter Try.func71, Try.ntmps71
      go_wp2
      go_ret2
      exact ⟨rfl, rfl⟩
    · have hw : a < wrap64 (a + b) := by unfold wrap64; omega
      have hz : ¬ b = 0 := by omega
      go_enter Try.func71, Try.ntmps71
      go_wp2
      go_ret2
      exact ⟨rfl, rfl⟩

set_option maxHeartbeats 400000 in
theorem sub_any (a b : Int) (w : World) (ha : -9223372036854775808 ≤ a) (ha' : a ≤ 9223372036854775807) (hb : -9223372036854775808 ≤ b) (hb' : b ≤ 9223372036854775807) :
    Calls Try.prog 68 #[.int .i64 a, .int .i64 b] w fun e w' => e = .returned (.tuple #[.int .i64 (fitV (a - b)), .int .i64 (fitE (a - b))]) ∧ w = w' := by
  rcases fit_cases (a - b) with ⟨h1, h2, hv, he⟩ | ⟨h1, hv, he⟩
  · rw [hv, he]; clear hv he
    by_cases hp : 0 < b
    · go_enter Try.func68, Try.ntmps68
      go_wp2
      go_ret2
      exact ⟨rfl, rfl⟩
    · by_cases hz : b = 0
      · subst hz
        go_enter Try.func68, Try.ntmps68
        go_wp2
        go_ret2
        exact ⟨ret2 (vint (by omega)) rfl, rfl⟩
      · go_enter Try.func68, Try.ntmps68
        go_wp2
        go_ret2
        exact ⟨rfl, rfl⟩
  · rw [hv, he]; clear hv he
    by_cases hp : 0 < b
    · have hw : a ≤ wrap64 (a - b) := by unfold wrap64; omega
      have hd : decide (wrap64 (a - b) < a) = false := by simpa using hw
      have hz : (b != 0) = true := by simp; omega
      go_enter Try.func68, Try.ntmps68
      go_wp2
      go_ret2
      exact ⟨rfl, rfl⟩
    · have hw : wrap64 (a - b) < a := by unfold wrap64; omega
      have hz : ¬ b = 0 := by omega
      go_enter Try.func68, Try.ntmps68
      go_wp2
      go_ret2
      exact ⟨rfl, rfl⟩

set_option maxHeartbeats 400000 in
theorem neg_any (a : Int) (w : World) (ha : -9223372036854775808 ≤ a) (ha' : a ≤ 9223372036854775807) :
    Calls Try.prog 43 #[.int .i64 a] w fun e w' => e = .returned (.tuple #[.int .i64 (fitV (-a)), .int .i64 (fitE (-a))]) ∧ w = w' := by
  go_enter Try.func43, Try.ntmps43
  go_wp2_with (go_at_call 68; refine (sub_any _ _ _ (by omega) (by omega) ha ha').mono ?_; rintro e w' ⟨rfl, rfl⟩)
  go_ret2
  exact ⟨rfl, rfl⟩

set_option maxHeartbeats 400000 in
theorem abs_any (a : Int) (w : World) (ha : -9223372036854775808 ≤ a) (ha' : a ≤ 9223372036854775807) :
    Calls Try.prog 45 #[.int .i64 a] w fun e w' => e = .returned (.tuple #[.int .i64 (fitV (a.natAbs : Int)), .int .i64 (fitE (a.natAbs : Int))]) ∧ w = w' := by
  go_enter Try.func45, Try.ntmps45
  go_wp2_with (first | (go_at_call 69; refine (size_any _ _ ha ha').mono ?_; rintro e w' ⟨rfl, rfl⟩) | (go_at_call 70; refine (made_any _ _ _ (by omega) (by omega)).mono ?_; rintro e w' ⟨rfl, rfl⟩))
  go_ret2
  exact ⟨ret2 (vint (by rw [sgF])) (vint (by rw [sgF])), rfl⟩

theorem natAbs_bd (a : Int) (ha : -9223372036854775808 ≤ a) (ha' : a ≤ 9223372036854775807) : a.natAbs < 18446744073709551616 := by omega
theorem abs_mul (a b : Int) : ((a.natAbs * b.natAbs : Nat) : Int) = ((a * b).natAbs : Nat) := by rw [Int.natAbs_mul]
theorem mul_same (a b : Int) (h : a < 0 ↔ b < 0) : 0 ≤ a * b := by
  by_cases ha : a < 0
  · have hb := h.1 ha
    exact Int.mul_nonneg_of_nonpos_of_nonpos (by omega) (by omega)
  · have hb : ¬ b < 0 := fun e => ha (h.2 e)
    exact Int.mul_nonneg (by omega) (by omega)
theorem mul_other (a b : Int) (h : ¬ (a < 0 ↔ b < 0)) : a * b ≤ 0 := by
  by_cases ha : a < 0
  · have hb : ¬ b < 0 := fun e => h ⟨fun _ => e, fun _ => ha⟩
    exact Int.mul_nonpos_of_nonpos_of_nonneg (by omega) (by omega)
  · have hb : b < 0 := by
      by_cases hb : b < 0
      · exact hb
      · exact absurd ⟨fun e => absurd e ha, fun e => absurd e hb⟩ h
    exact Int.mul_nonpos_of_nonneg_of_nonpos (by omega) (by omega)
theorem out_big {x : Int} (h : 0 < (x.natAbs : Int) / 18446744073709551616) : x < -9223372036854775808 ∨ 9223372036854775807 < x := by omega
theorem in_same {x : Int} (h : (x.natAbs : Int) / 18446744073709551616 ≤ 0) (hx : 0 ≤ x) : sg false ((x.natAbs : Int) % 18446744073709551616) = x := by rw [sgF]; omega
theorem in_other {x a b : Int} (h : (x.natAbs : Int) / 18446744073709551616 ≤ 0) (hx : x ≤ 0) (hs : ¬ (a < 0 ↔ b < 0)) :
    sg (!decide (a < 0) == decide (b < 0) && decide (0 < (x.natAbs : Int) % 18446744073709551616)) ((x.natAbs : Int) % 18446744073709551616) = x := by
  have hd : (!decide (a < 0) == decide (b < 0)) = true := by
    by_cases ha : a < 0 <;> by_cases hb : b < 0 <;> simp [ha, hb] at hs ⊢
  rw [hd, Bool.true_and]
  unfold sg; split
  · omega
  · rename_i hd; simp at hd; omega

set_option maxHeartbeats 400000 in
theorem mul_any (a b : Int) (w : World) (ha : -9223372036854775808 ≤ a) (ha' : a ≤ 9223372036854775807) (hb : -9223372036854775808 ≤ b) (hb' : b ≤ 9223372036854775807) :
    Calls Try.prog 72 #[.int .i64 a, .int .i64 b] w fun e w' => e = .returned (.tuple #[.int .i64 (fitV (a * b)), .int .i64 (fitE (a * b))]) ∧ w = w' := by
  have hx := natAbs_bd a ha ha'
  have hy := natAbs_bd b hb hb'
  have hc := abs_mul a b
  go_enter Try.func72, Try.ntmps72
  go_wp2_with (first
    | (go_at_call 69; refine (size_any _ _ (by assumption) (by assumption)).mono ?_; rintro e w' ⟨rfl, rfl⟩)
    | (go_at_call 94; refine (Try.bits_Mul64 _ _ hx hy _).mono ?_; rintro e w' ⟨rfl, rfl⟩)
    | (go_at_call 70; refine (made_any _ _ _ (by omega) (by omega)).mono ?_; rintro e w' ⟨rfl, rfl⟩))
  · have h : 0 < ((a * b).natAbs : Int) / 18446744073709551616 := by assumption
    go_ret2
    exact ⟨ret2 (vint (by rw [fitV_out (out_big h)])) (vint (by rw [fitE_out (out_big h)])), rfl⟩
  · have h : ((a * b).natAbs : Int) / 18446744073709551616 ≤ 0 := by assumption
    have hs : a < 0 ↔ b < 0 := by assumption
    go_ret2
    exact ⟨ret2 (vint (by rw [in_same h (mul_same a b hs)])) (vint (by rw [in_same h (mul_same a b hs)])), rfl⟩
  · have h : ((a * b).natAbs : Int) / 18446744073709551616 ≤ 0 := by assumption
    have hs : ¬ (a < 0 ↔ b < 0) := by assumption
    go_ret2
    exact ⟨ret2 (vint (by rw [in_other h (mul_other a b hs) hs])) (vint (by rw [in_other h (mul_other a b hs) hs])), rfl⟩
end Go.Proofs.Ytifjdfdjojkagaa
