/- The walk through the law NumBack. -/
import Derived.Test.YteacmlddgagocaaNum2
namespace Go.Proofs.Yteacmlddgagocaa
open Go.RowKit
set_option linter.unusedVariables false

set_option maxRecDepth 100000 in
set_option maxHeartbeats 1000000 in
theorem back_zero (a : Int) (w : World) : Calls Try.prog 5 #[.int .i64 a, .int .i64 0] w fun e w' => e = .returned (.bool true) ∧ w = w' := by
  go_enter Try.func5, Try.ntmps5
  go_wp2_with (first
    | (go_at_call 14; refine (quo_zero _ _).mono ?_; rintro e w' ⟨rfl, rfl⟩)
    | (go_at_call 16; refine (rem_zero _ _).mono ?_; rintro e w' ⟨rfl, rfl⟩)
    | (go_at_call 18; refine (div_zero _ _).mono ?_; rintro e w' ⟨rfl, rfl⟩)
    | (go_at_call 20; refine (mod_zero _ _).mono ?_; rintro e w' ⟨rfl, rfl⟩))
  go_ret
  exact ⟨rfl, rfl⟩

theorem rem_m1 (a : Int) (w : World) : Calls Try.prog 16 #[.int .i64 a, .int .i64 (-1)] w fun e w' => e = .returned (.tuple #[.int .i64 0, .int .i64 0]) ∧ w = w' := by
  have h := rem_any a (-1) w (by omega)
  rwa [Int.tmod_neg, Int.tmod_one] at h
theorem mod_m1 (a : Int) (w : World) : Calls Try.prog 20 #[.int .i64 a, .int .i64 (-1)] w fun e w' => e = .returned (.tuple #[.int .i64 0, .int .i64 0]) ∧ w = w' := by
  have h := mod_any a (-1) w (by omega) (by omega) (by omega)
  have h1 : a.tmod (-1) = 0 := by rw [Int.tmod_neg, Int.tmod_one]
  rwa [modS_not (low_not0 h1), h1] at h
theorem quo_m1 (a : Int) (w : World) (ha : -9223372036854775807 ≤ a) (ha' : a ≤ 9223372036854775807) : Calls Try.prog 14 #[.int .i64 a, .int .i64 (-1)] w fun e w' => e = .returned (.tuple #[.int .i64 (-a), .int .i64 0]) ∧ w = w' := by
  have h := quo_fits a (-1) w (by omega) ha' (by omega) (by omega)
  rwa [show a.tdiv (-1) = -a by rw [Int.tdiv_neg, Int.tdiv_one]] at h
theorem div_m1 (a : Int) (w : World) (ha : -9223372036854775807 ≤ a) (ha' : a ≤ 9223372036854775807) : Calls Try.prog 18 #[.int .i64 a, .int .i64 (-1)] w fun e w' => e = .returned (.tuple #[.int .i64 (-a), .int .i64 0]) ∧ w = w' := by
  have h := div_fits a (-1) w (by omega) ha' (by omega) (by omega)
  have h1 : a.tmod (-1) = 0 := by rw [Int.tmod_neg, Int.tmod_one]
  rwa [divS_not (low_not0 h1), show a.tdiv (-1) = -a by rw [Int.tdiv_neg, Int.tdiv_one]] at h

set_option maxRecDepth 100000 in
set_option maxHeartbeats 1000000 in
theorem back_m1 (a : Int) (w : World) (ha : -9223372036854775807 ≤ a) (ha' : a ≤ 9223372036854775807) :
    Calls Try.prog 5 #[.int .i64 a, .int .i64 (-1)] w fun e w' => e = .returned (.bool true) ∧ w = w' := by
  go_enter Try.func5, Try.ntmps5
  go_wp2_with (first
    | (go_at_call 14; refine (quo_m1 _ _ ha ha').mono ?_; rintro e w' ⟨rfl, rfl⟩)
    | (go_at_call 16; refine (rem_m1 _ _).mono ?_; rintro e w' ⟨rfl, rfl⟩)
    | (go_at_call 18; refine (div_m1 _ _ ha ha').mono ?_; rintro e w' ⟨rfl, rfl⟩)
    | (go_at_call 20; refine (mod_m1 _ _).mono ?_; rintro e w' ⟨rfl, rfl⟩))
  go_ret
  exact ⟨congrArg Ending.returned (vbool (by first | rfl | (simp; done) | (simp; omega))), rfl⟩

set_option maxRecDepth 100000 in
set_option maxHeartbeats 1000000 in
theorem back_min (w : World) :
    Calls Try.prog 5 #[.int .i64 (-9223372036854775808), .int .i64 (-1)] w fun e w' => e = .returned (.bool true) ∧ w = w' := by
  go_enter Try.func5, Try.ntmps5
  go_wp2_with (first
    | (go_at_call 14; refine (quo_min_m1 _).mono ?_; rintro e w' ⟨rfl, rfl⟩)
    | (go_at_call 16; refine (rem_m1 _ _).mono ?_; rintro e w' ⟨rfl, rfl⟩)
    | (go_at_call 18; refine (div_min_m1 _).mono ?_; rintro e w' ⟨rfl, rfl⟩)
    | (go_at_call 20; refine (mod_m1 _ _).mono ?_; rintro e w' ⟨rfl, rfl⟩))
  go_ret
  exact ⟨rfl, rfl⟩

def C2 (f : Nat) (a b x : Int) : Prop := ∀ w : World, Calls Try.prog f #[.int .i64 a, .int .i64 b] w fun e w' => e = .returned (.tuple #[.int .i64 x, .int .i64 0]) ∧ w = w'

set_option maxRecDepth 100000 in
set_option maxHeartbeats 1000000 in
theorem back_even (a b q : Int) (w : World) (hq : C2 14 a b q) (hr : C2 16 a b 0) (hd : C2 18 a b q) (hm : C2 20 a b 0)
    (z0 : (b == 0) = false) (z1 : (b == -1) = false) (pl : -9223372036854775808 ≤ q * b) (ph : q * b ≤ 9223372036854775807)
    (bl : -9223372036854775808 ≤ b) (bh : b ≤ 9223372036854775807)
    (he : (q * b != a) = false) (hb : b < 0 ∨ 0 < b) :
    Calls Try.prog 5 #[.int .i64 a, .int .i64 b] w fun e w' => e = .returned (.bool true) ∧ w = w' := by
  rcases hb with hb | hb
  all_goals
    go_enter Try.func5, Try.ntmps5
    go_wp2_with (first
      | (go_at_call 14; refine (hq _).mono ?_; rintro e w' ⟨rfl, rfl⟩)
      | (go_at_call 16; refine (hr _).mono ?_; rintro e w' ⟨rfl, rfl⟩)
      | (go_at_call 18; refine (hd _).mono ?_; rintro e w' ⟨rfl, rfl⟩)
      | (go_at_call 20; refine (hm _).mono ?_; rintro e w' ⟨rfl, rfl⟩))
    go_ret
    exact ⟨congrArg Ending.returned (vbool (by first | rfl | (simp; done) | (simp; omega))), rfl⟩

set_option maxRecDepth 100000 in
set_option maxHeartbeats 1000000 in
theorem back_nn (a b q r : Int) (w : World) (hq : C2 14 a b q) (hr : C2 16 a b r) (hd : C2 18 a b q) (hm : C2 20 a b r)
    (z0 : (b == 0) = false) (z1 : (b == -1) = false) (pl : -9223372036854775808 ≤ q * b) (ph : q * b ≤ 9223372036854775807)
    (ql : -9223372036854775807 ≤ q) (qh : q ≤ 9223372036854775807) (bl : -9223372036854775808 ≤ b) (bh : b ≤ 9223372036854775807)
    (he : (q * b + r != a) = false) (r0 : (r != 0) = true) (al : -9223372036854775808 ≤ q * b + r) (ah : q * b + r ≤ 9223372036854775807) (h1 : r < 0) (h2 : a < 0) (h3 : b < 0) (h4 : b < r) :
    Calls Try.prog 5 #[.int .i64 a, .int .i64 b] w fun e w' => e = .returned (.bool true) ∧ w = w' := by
  have d1 : decide (b < 0) = true := by simp; omega
  have d2 : decide (r < 0) = true := by simp; omega
  have d3 : decide (a < 0) = true := by simp; omega
  go_enter Try.func5, Try.ntmps5
  go_wp2_with (first
    | (go_at_call 14; refine (hq _).mono ?_; rintro e w' ⟨rfl, rfl⟩)
    | (go_at_call 16; refine (hr _).mono ?_; rintro e w' ⟨rfl, rfl⟩)
    | (go_at_call 18; refine (hd _).mono ?_; rintro e w' ⟨rfl, rfl⟩)
    | (go_at_call 20; refine (hm _).mono ?_; rintro e w' ⟨rfl, rfl⟩))
  go_ret
  exact ⟨congrArg Ending.returned (vbool (by first | rfl | (simp; done) | (simp; omega))), rfl⟩

set_option maxRecDepth 100000 in
set_option maxHeartbeats 1000000 in
theorem back_np (a b q r : Int) (w : World) (hq : C2 14 a b q) (hr : C2 16 a b r) (hd : C2 18 a b (q - 1)) (hm : C2 20 a b (r + b))
    (z0 : (b == 0) = false) (z1 : (b == -1) = false) (pl : -9223372036854775808 ≤ q * b) (ph : q * b ≤ 9223372036854775807)
    (ql : -9223372036854775807 ≤ q) (qh : q ≤ 9223372036854775807) (bl : -9223372036854775808 ≤ b) (bh : b ≤ 9223372036854775807)
    (he : (q * b + r != a) = false) (r0 : (r != 0) = true) (al : -9223372036854775808 ≤ q * b + r) (ah : q * b + r ≤ 9223372036854775807) (h1 : r < 0) (h2 : a < 0) (h3 : 0 < b) (h4 : -b < r) :
    Calls Try.prog 5 #[.int .i64 a, .int .i64 b] w fun e w' => e = .returned (.bool true) ∧ w = w' := by
  have d1 : decide (b < 0) = false := by simp; omega
  have d2 : decide (r < 0) = true := by simp; omega
  have d3 : decide (a < 0) = true := by simp; omega
  go_enter Try.func5, Try.ntmps5
  go_wp2_with (first
    | (go_at_call 14; refine (hq _).mono ?_; rintro e w' ⟨rfl, rfl⟩)
    | (go_at_call 16; refine (hr _).mono ?_; rintro e w' ⟨rfl, rfl⟩)
    | (go_at_call 18; refine (hd _).mono ?_; rintro e w' ⟨rfl, rfl⟩)
    | (go_at_call 20; refine (hm _).mono ?_; rintro e w' ⟨rfl, rfl⟩))
  go_ret
  exact ⟨congrArg Ending.returned (vbool (by first | rfl | (simp; done) | (simp; omega))), rfl⟩

set_option maxRecDepth 100000 in
set_option maxHeartbeats 1000000 in
theorem back_pn (a b q r : Int) (w : World) (hq : C2 14 a b q) (hr : C2 16 a b r) (hd : C2 18 a b (q - 1)) (hm : C2 20 a b (r + b))
    (z0 : (b == 0) = false) (z1 : (b == -1) = false) (pl : -9223372036854775808 ≤ q * b) (ph : q * b ≤ 9223372036854775807)
    (ql : -9223372036854775807 ≤ q) (qh : q ≤ 9223372036854775807) (bl : -9223372036854775808 ≤ b) (bh : b ≤ 9223372036854775807)
    (he : (q * b + r != a) = false) (r0 : (r != 0) = true) (al : -9223372036854775808 ≤ q * b + r) (ah : q * b + r ≤ 9223372036854775807) (h1 : 0 < r) (h2 : 0 < a) (h3 : b < 0) (h4 : r < -b) :
    Calls Try.prog 5 #[.int .i64 a, .int .i64 b] w fun e w' => e = .returned (.bool true) ∧ w = w' := by
  have d1 : decide (b < 0) = true := by simp; omega
  have d2 : decide (r < 0) = false := by simp; omega
  have d3 : decide (a < 0) = false := by simp; omega
  go_enter Try.func5, Try.ntmps5
  go_wp2_with (first
    | (go_at_call 14; refine (hq _).mono ?_; rintro e w' ⟨rfl, rfl⟩)
    | (go_at_call 16; refine (hr _).mono ?_; rintro e w' ⟨rfl, rfl⟩)
    | (go_at_call 18; refine (hd _).mono ?_; rintro e w' ⟨rfl, rfl⟩)
    | (go_at_call 20; refine (hm _).mono ?_; rintro e w' ⟨rfl, rfl⟩))
  go_ret
  exact ⟨congrArg Ending.returned (vbool (by first | rfl | (simp; done) | (simp; omega))), rfl⟩

set_option maxRecDepth 100000 in
set_option maxHeartbeats 1000000 in
theorem back_pp (a b q r : Int) (w : World) (hq : C2 14 a b q) (hr : C2 16 a b r) (hd : C2 18 a b q) (hm : C2 20 a b r)
    (z0 : (b == 0) = false) (z1 : (b == -1) = false) (pl : -9223372036854775808 ≤ q * b) (ph : q * b ≤ 9223372036854775807)
    (ql : -9223372036854775807 ≤ q) (qh : q ≤ 9223372036854775807) (bl : -9223372036854775808 ≤ b) (bh : b ≤ 9223372036854775807)
    (he : (q * b + r != a) = false) (r0 : (r != 0) = true) (al : -9223372036854775808 ≤ q * b + r) (ah : q * b + r ≤ 9223372036854775807) (h1 : 0 < r) (h2 : 0 < a) (h3 : 0 < b) (h4 : r < b) :
    Calls Try.prog 5 #[.int .i64 a, .int .i64 b] w fun e w' => e = .returned (.bool true) ∧ w = w' := by
  have d1 : decide (b < 0) = false := by simp; omega
  have d2 : decide (r < 0) = false := by simp; omega
  have d3 : decide (a < 0) = false := by simp; omega
  go_enter Try.func5, Try.ntmps5
  go_wp2_with (first
    | (go_at_call 14; refine (hq _).mono ?_; rintro e w' ⟨rfl, rfl⟩)
    | (go_at_call 16; refine (hr _).mono ?_; rintro e w' ⟨rfl, rfl⟩)
    | (go_at_call 18; refine (hd _).mono ?_; rintro e w' ⟨rfl, rfl⟩)
    | (go_at_call 20; refine (hm _).mono ?_; rintro e w' ⟨rfl, rfl⟩))
  go_ret
  exact ⟨congrArg Ending.returned (vbool (by first | rfl | (simp; done) | (simp; omega))), rfl⟩

/-- The law NumBack returns true. -/
theorem back_any (a b : Int) (w : World) (ha : -9223372036854775808 ≤ a) (ha' : a ≤ 9223372036854775807) (hb : -9223372036854775808 ≤ b) (hb' : b ≤ 9223372036854775807) :
    Calls Try.prog 5 #[.int .i64 a, .int .i64 b] w fun e w' => e = .returned (.bool true) ∧ w = w' := by
  by_cases h0 : b = 0
  · subst h0; exact back_zero a w
  by_cases h1 : b = -1
  · subst h1
    by_cases hm : a = -9223372036854775808
    · subst hm; exact back_min w
    · exact back_m1 a w (by omega) ha'
  have z0 : (b == 0) = false := by simpa using h0
  have z1 : (b == -1) = false := by simpa using h1
  have hq : C2 14 a b (a.tdiv b) := fun w => quo_fits a b w ha ha' h0 (by omega)
  have hr : C2 16 a b (a.tmod b) := fun w => rem_any a b w h0
  have hd : C2 18 a b (divS a b) := fun w => div_fits a b w ha ha' h0 (by omega)
  have hm : C2 20 a b (modS a b) := fun w => mod_any a b w hb hb' h0
  have e1 : a.tdiv b * b + a.tmod b = a := Int.tdiv_mul_add_tmod a b
  have he : (a.tdiv b * b + a.tmod b != a) = false := by rw [e1]; simp
  obtain ⟨m1, m2⟩ := tmod_bd a b h0
  have ms := tmod_sign a b
  have pl : -9223372036854775808 ≤ a.tdiv b * b ∧ a.tdiv b * b ≤ 9223372036854775807 := by omega
  have al : -9223372036854775808 ≤ a.tdiv b * b + a.tmod b ∧ a.tdiv b * b + a.tmod b ≤ 9223372036854775807 := by omega
  by_cases hz : a.tmod b = 0
  · have hl := low_not0 hz
    rw [divS_not hl] at hd
    rw [modS_not hl, hz] at hm
    rw [hz] at hr
    rw [hz, Int.add_zero] at he
    exact back_even a b _ w hq hr hd hm z0 z1 pl.1 pl.2 hb hb' he (by omega)
  · have r0 : (a.tmod b != 0) = true := by simpa using hz
    have ql : -9223372036854775807 ≤ a.tdiv b ∧ a.tdiv b ≤ 9223372036854775807 := by
      have h1 : (a.tdiv b).natAbs = a.natAbs / b.natAbs := Int.natAbs_tdiv a b
      have h4 : a.natAbs / b.natAbs ≤ a.natAbs / 2 := Nat.div_le_div_left (by omega) (by omega)
      omega
    by_cases hr0 : a.tmod b < 0
    · have ha0 : a < 0 := by omega
      by_cases hb0 : b < 0
      · have hl : low a b = false := by unfold low; simp [ha0, hb0]
        rw [divS_not hl] at hd
        rw [modS_not hl] at hm
        exact back_nn a b _ _ w hq hr hd hm z0 z1 pl.1 pl.2 ql.1 ql.2 hb hb' he r0 al.1 al.2 hr0 ha0 hb0 (by omega)
      · have hl : low a b = true := by unfold low; rw [r0]; simp [ha0, hb0]
        rw [divS_low hl] at hd
        rw [modS_low hl] at hm
        exact back_np a b _ _ w hq hr hd hm z0 z1 pl.1 pl.2 ql.1 ql.2 hb hb' he r0 al.1 al.2 hr0 ha0 (by omega) (by omega)
    · have ha0 : ¬ a < 0 := by omega
      by_cases hb0 : b < 0
      · have hl : low a b = true := by unfold low; rw [r0]; simp [ha0, hb0]
        rw [divS_low hl] at hd
        rw [modS_low hl] at hm
        exact back_pn a b _ _ w hq hr hd hm z0 z1 pl.1 pl.2 ql.1 ql.2 hb hb' he r0 al.1 al.2 (by omega) (by omega) hb0 (by omega)
      · have hl : low a b = false := by unfold low; simp [ha0, hb0]
        rw [divS_not hl] at hd
        rw [modS_not hl] at hm
        exact back_pp a b _ _ w hq hr hd hm z0 z1 pl.1 pl.2 ql.1 ql.2 hb hb' he r0 al.1 al.2 (by omega) (by omega) (by omega) (by omega)
end Go.Proofs.Yteacmlddgagocaa
