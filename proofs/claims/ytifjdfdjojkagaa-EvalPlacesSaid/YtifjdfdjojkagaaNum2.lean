/- The walks through package num: Quo, Rem, Div, Mod. -/
import Derived.Test.YtifjdfdjojkagaaNum1
import Derived.Lib.Hide
namespace Go.Proofs.Ytifjdfdjojkagaa
open Go.RowKit

set_option maxHeartbeats 400000 in
theorem quo_zero (a : Int) (w : World) :
    Calls Try.prog 73 #[.int .i64 a, .int .i64 0] w fun e w' => e = .returned (.tuple #[.int .i64 0, .int .i64 11]) ∧ w = w' := by
  go_enter Try.func73, Try.ntmps73
  go_wp2
  go_ret2
  exact ⟨rfl, rfl⟩

theorem quo_min_m1 (w : World) :
    Calls Try.prog 73 #[.int .i64 (-9223372036854775808), .int .i64 (-1)] w fun e w' => e = .returned (.tuple #[.int .i64 0, .int .i64 10]) ∧ w = w' := by
  go_enter Try.func73, Try.ntmps73
  go_wp2
  go_ret2
  exact ⟨rfl, rfl⟩

set_option maxHeartbeats 400000 in
theorem quo_fits (a b : Int) (w : World) (ha : -9223372036854775808 ≤ a) (ha' : a ≤ 9223372036854775807) (hz : ¬ b = 0) (h : ¬ (a = -9223372036854775808 ∧ b = -1)) :
    Calls Try.prog 73 #[.int .i64 a, .int .i64 b] w fun e w' => e = .returned (.tuple #[.int .i64 (a.tdiv b), .int .i64 0]) ∧ w = w' := by
  obtain ⟨h1, h2⟩ := tdiv_in a b ha ha' hz h
  have hz2 : (b == 0) = false := by simpa using hz
  by_cases hm : a = -9223372036854775808
  · have hb1 : (b == -1) = false := by simp; omega
    subst hm
    rw [show Int.tdiv (-9223372036854775808) b = -Int.tdiv 9223372036854775808 b from Int.neg_tdiv _ _] at h1 h2 ⊢
    clear h
    go_enter Try.func73, Try.ntmps73
    go_wp2
    go_ret2
    exact ⟨rfl, rfl⟩
  · have hm2 : (a == -9223372036854775808) = false := by simpa using hm
    clear h hm
    go_enter Try.func73, Try.ntmps73
    go_wp2
    go_ret2
    exact ⟨rfl, rfl⟩

theorem quo_any (a b : Int) (w : World) (ha : -9223372036854775808 ≤ a) (ha' : a ≤ 9223372036854775807) (hz : ¬ b = 0) :
    Calls Try.prog 73 #[.int .i64 a, .int .i64 b] w fun e w' => e = .returned (.tuple #[.int .i64 (fitV (a.tdiv b)), .int .i64 (fitE (a.tdiv b))]) ∧ w = w' := by
  by_cases h : a = -9223372036854775808 ∧ b = -1
  · obtain ⟨rfl, rfl⟩ := h
    exact quo_min_m1 w
  · obtain ⟨h1, h2⟩ := tdiv_in a b ha ha' hz h
    rw [fitV_in h1 h2, fitE_in h1 h2]
    exact quo_fits a b w ha ha' hz h

set_option maxHeartbeats 400000 in
theorem rem_zero (a : Int) (w : World) :
    Calls Try.prog 74 #[.int .i64 a, .int .i64 0] w fun e w' => e = .returned (.tuple #[.int .i64 0, .int .i64 11]) ∧ w = w' := by
  go_enter Try.func74, Try.ntmps74
  go_wp2
  go_ret2
  exact ⟨rfl, rfl⟩

set_option maxHeartbeats 400000 in
theorem rem_any (a b : Int) (w : World) (hz : ¬ b = 0) :
    Calls Try.prog 74 #[.int .i64 a, .int .i64 b] w fun e w' => e = .returned (.tuple #[.int .i64 (a.tmod b), .int .i64 0]) ∧ w = w' := by
  have hz2 : (b == 0) = false := by simpa using hz
  by_cases hb1 : b = -1
  · subst hb1
    go_enter Try.func74, Try.ntmps74
    go_wp2
    go_ret2
    exact ⟨ret2 (vint (by rw [Int.tmod_neg, Int.tmod_one])) rfl, rfl⟩
  · have hb2 : (b == -1) = false := by simpa using hb1
    go_enter Try.func74, Try.ntmps74
    go_wp2
    go_ret2
    exact ⟨ret2 (vint (by rfl)) rfl, rfl⟩

set_option maxHeartbeats 400000 in
theorem div_zero (a : Int) (w : World) :
    Calls Try.prog 75 #[.int .i64 a, .int .i64 0] w fun e w' => e = .returned (.tuple #[.int .i64 0, .int .i64 11]) ∧ w = w' := by
  go_enter Try.func75, Try.ntmps75
  go_wp2_with (go_at_call 73; refine (quo_zero _ _).mono ?_; rintro e w' ⟨rfl, rfl⟩)
  go_ret2
  exact ⟨rfl, rfl⟩

set_option maxHeartbeats 400000 in
theorem div_min_m1 (w : World) :
    Calls Try.prog 75 #[.int .i64 (-9223372036854775808), .int .i64 (-1)] w fun e w' => e = .returned (.tuple #[.int .i64 0, .int .i64 10]) ∧ w = w' := by
  go_enter Try.func75, Try.ntmps75
  go_wp2_with (go_at_call 73; refine (quo_min_m1 _).mono ?_; rintro e w' ⟨rfl, rfl⟩)
  go_ret2
  exact ⟨rfl, rfl⟩

set_option maxHeartbeats 400000 in
theorem div_fits (a b : Int) (w : World) (ha : -9223372036854775808 ≤ a) (ha' : a ≤ 9223372036854775807) (hz : ¬ b = 0) (h : ¬ (a = -9223372036854775808 ∧ b = -1)) :
    Calls Try.prog 75 #[.int .i64 a, .int .i64 b] w fun e w' => e = .returned (.tuple #[.int .i64 (divS a b), .int .i64 0]) ∧ w = w' := by
  have hz2 : (b == 0) = false := by simpa using hz
  have hq := tdiv_in a b ha ha' hz h
  have hq2 : low a b = true → _ := tdiv_low ha ha' hz
  have hh := Lib.hid h
  have hq3 := Lib.hid hq2
  clear h hq2
  go_enter Try.func75, Try.ntmps75
  go_wp2_with (go_at_call 73; refine (quo_fits _ _ _ ha ha' hz hh.out).mono ?_; rintro e w' ⟨rfl, rfl⟩)
  · have hl : a.tmod b = 0 := by assumption
    go_ret2
    exact ⟨ret2 (vint (by rw [divS_not (low_not0 hl)])) rfl, rfl⟩
  · have hl : (a.tmod b != 0) = true ∧ (!decide (a < 0) == decide (b < 0)) = true := by assumption
    have hb := hq3.out (low_mk hl)
    go_ret2
    exact ⟨ret2 (vint (by rw [divS_low (low_mk hl), IntWalk.wrap64_in _ hb])) rfl, rfl⟩
  · have hl : (a.tmod b != 0) = false ∨ (!decide (a < 0) == decide (b < 0)) = false := by assumption
    go_ret2
    exact ⟨ret2 (vint (by rw [divS_not (low_no hl)])) rfl, rfl⟩

theorem div_any (a b : Int) (w : World) (ha : -9223372036854775808 ≤ a) (ha' : a ≤ 9223372036854775807) (hz : ¬ b = 0) :
    Calls Try.prog 75 #[.int .i64 a, .int .i64 b] w fun e w' => e = .returned (.tuple #[.int .i64 (fitV (divS a b)), .int .i64 (fitE (divS a b))]) ∧ w = w' := by
  by_cases h : a = -9223372036854775808 ∧ b = -1
  · obtain ⟨rfl, rfl⟩ := h
    exact div_min_m1 w
  · have hl : -9223372036854775808 ≤ divS a b ∧ divS a b ≤ 9223372036854775807 := by
      cases hl : low a b
      · rw [divS_not hl]; exact tdiv_in a b ha ha' hz h
      · rw [divS_low hl]; exact tdiv_low ha ha' hz hl
    rw [fitV_in hl.1 hl.2, fitE_in hl.1 hl.2]
    exact div_fits a b w ha ha' hz h

set_option maxHeartbeats 400000 in
theorem mod_zero (a : Int) (w : World) :
    Calls Try.prog 76 #[.int .i64 a, .int .i64 0] w fun e w' => e = .returned (.tuple #[.int .i64 0, .int .i64 11]) ∧ w = w' := by
  go_enter Try.func76, Try.ntmps76
  go_wp2_with (go_at_call 74; refine (rem_zero _ _).mono ?_; rintro e w' ⟨rfl, rfl⟩)
  go_ret2
  exact ⟨rfl, rfl⟩

theorem tmod_neg_iff {a b : Int} (h : ¬ a.tmod b = 0) : (a.tmod b < 0 ↔ a < 0) := by
  have := tmod_sign a b
  omega

set_option maxHeartbeats 400000 in
theorem mod_any (a b : Int) (w : World) (hb : -9223372036854775808 ≤ b) (hb' : b ≤ 9223372036854775807) (hz : ¬ b = 0) :
    Calls Try.prog 76 #[.int .i64 a, .int .i64 b] w fun e w' => e = .returned (.tuple #[.int .i64 (modS a b), .int .i64 0]) ∧ w = w' := by
  have hm := tmod_bd a b hz
  have hi : ¬ a.tmod b = 0 → decide (a.tmod b < 0) = decide (a < 0) := fun h => by simp [tmod_neg_iff h]
  by_cases h0 : a.tmod b = 0
  · have hl := Lib.hid (low_not0 h0)
    have h1 : (a.tmod b != 0) = false := by simpa using h0
    clear hi h0
    go_enter Try.func76, Try.ntmps76
    go_wp2_with (go_at_call 74; refine (rem_any _ _ _ hz).mono ?_; rintro e w' ⟨rfl, rfl⟩)
    go_ret2
    exact ⟨ret2 (vint (by rw [modS_not hl.out])) rfl, rfl⟩
  · have h1 : (a.tmod b != 0) = true := by simpa using h0
    cases hs : (decide (a < 0) != decide (b < 0))
    · have hl : low a b = false := by unfold low; rw [hs]; simp
      rw [← hi h0] at hs
      have hl := Lib.hid hl
      have hs2 : (!decide (a.tmod b < 0) == decide (b < 0)) = false := hs
      clear hi hs
      go_enter Try.func76, Try.ntmps76
      go_wp2_with (go_at_call 74; refine (rem_any _ _ _ hz).mono ?_; rintro e w' ⟨rfl, rfl⟩)
      go_ret2
      exact ⟨ret2 (vint (by rw [modS_not hl.out])) rfl, rfl⟩
    · have hl : low a b = true := by unfold low; rw [hs, h1]; rfl
      rw [← hi h0] at hs
      have hl := Lib.hid hl
      have hs2 : (!decide (a.tmod b < 0) == decide (b < 0)) = true := hs
      have hb3 := modS_bd a b hz
      rw [modS_low hl.out] at hb3
      clear hi hs
      go_enter Try.func76, Try.ntmps76
      go_wp2_with (go_at_call 74; refine (rem_any _ _ _ hz).mono ?_; rintro e w' ⟨rfl, rfl⟩)
      go_ret2
      exact ⟨ret2 (vint (by rw [modS_low hl.out])) rfl, rfl⟩
end Go.Proofs.Ytifjdfdjojkagaa
