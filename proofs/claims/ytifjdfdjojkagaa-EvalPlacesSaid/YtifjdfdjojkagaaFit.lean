/- Plain words on integers of 64 bits: what a sum of any size comes to. No program in sight. -/
namespace Go.Proofs.Ytifjdfdjojkagaa

/-- The integer, where it fits into 64 bits; else 0. -/
def fitV (x : Int) : Int := if -9223372036854775808 ≤ x ∧ x ≤ 9223372036854775807 then x else 0
/-- The error that goes with it: 0, or 10. -/
def fitE (x : Int) : Int := if -9223372036854775808 ≤ x ∧ x ≤ 9223372036854775807 then 0 else 10
/-- A size with a sign. -/
def sg (b : Bool) (n : Int) : Int := if b then -n else n

theorem fitV_in {x : Int} (h : -9223372036854775808 ≤ x) (h' : x ≤ 9223372036854775807) : fitV x = x := by unfold fitV; rw [if_pos ⟨h, h'⟩]
theorem fitE_in {x : Int} (h : -9223372036854775808 ≤ x) (h' : x ≤ 9223372036854775807) : fitE x = 0 := by unfold fitE; rw [if_pos ⟨h, h'⟩]
theorem fitV_out {x : Int} (h : x < -9223372036854775808 ∨ 9223372036854775807 < x) : fitV x = 0 := by unfold fitV; rw [if_neg (by omega)]
theorem fitE_out {x : Int} (h : x < -9223372036854775808 ∨ 9223372036854775807 < x) : fitE x = 10 := by unfold fitE; rw [if_neg (by omega)]
theorem fitV_bd (x : Int) : -9223372036854775808 ≤ fitV x ∧ fitV x ≤ 9223372036854775807 := by unfold fitV; split <;> omega
theorem fitE_bd (x : Int) : 0 ≤ fitE x ∧ fitE x ≤ 10 := by unfold fitE; split <;> omega
theorem fit_cases (x : Int) : (-9223372036854775808 ≤ x ∧ x ≤ 9223372036854775807 ∧ fitV x = x ∧ fitE x = 0) ∨ ((x < -9223372036854775808 ∨ 9223372036854775807 < x) ∧ fitV x = 0 ∧ fitE x = 10) := by
  by_cases h : -9223372036854775808 ≤ x ∧ x ≤ 9223372036854775807
  · exact .inl ⟨h.1, h.2, fitV_in h.1 h.2, fitE_in h.1 h.2⟩
  · exact .inr ⟨by omega, fitV_out (by omega), fitE_out (by omega)⟩

theorem sgT (n : Int) : sg true n = -n := by simp [sg]
theorem sgF (n : Int) : sg false n = n := by simp [sg]
theorem sg_abs (a : Int) : sg (decide (a < 0)) a.natAbs = a := by unfold sg; split <;> simp at * <;> omega
theorem sg_mul (b c : Bool) (m n : Int) : sg (b != c) (m * n) = sg b m * sg c n := by
  unfold sg; cases b <;> cases c <;> simp [Int.neg_mul, Int.mul_neg]
theorem sg_zero (b : Bool) : sg b 0 = 0 := by unfold sg; split <;> rfl

theorem tdiv_in (a b : Int) (ha : -9223372036854775808 ≤ a) (ha' : a ≤ 9223372036854775807) (hz : ¬ b = 0) (h : ¬ (a = -9223372036854775808 ∧ b = -1)) :
    -9223372036854775808 ≤ a.tdiv b ∧ a.tdiv b ≤ 9223372036854775807 := by
  have h1 : (a.tdiv b).natAbs = a.natAbs / b.natAbs := Int.natAbs_tdiv a b
  have h2 : a.natAbs / b.natAbs ≤ a.natAbs := Nat.div_le_self _ _
  by_cases h3 : a = -9223372036854775808
  · subst h3
    by_cases h4 : b = 1
    · subst h4; rw [Int.tdiv_one]; omega
    · have h5 : 2 ≤ b.natAbs := by omega
      have h6 : (-9223372036854775808 : Int).natAbs / b.natAbs ≤ (-9223372036854775808 : Int).natAbs / 2 := Nat.div_le_div_left h5 (by omega)
      have h7 : (-9223372036854775808 : Int).natAbs / 2 = 4611686018427387904 := by decide
      omega
  · omega
theorem tmod_bd (a b : Int) (hz : ¬ b = 0) : (a.tmod b).natAbs < b.natAbs ∧ (a.tmod b).natAbs ≤ a.natAbs := by
  have h1 : (a.tmod b).natAbs = a.natAbs % b.natAbs := Int.natAbs_tmod a b
  rw [h1]
  exact ⟨Nat.mod_lt _ (by omega), Nat.mod_le _ _⟩
theorem tmod_sign (a b : Int) : (a < 0 → a.tmod b ≤ 0) ∧ (0 ≤ a → 0 ≤ a.tmod b) := by
  refine ⟨fun h => ?_, fun h => Int.tmod_nonneg _ h⟩
  have := Int.tmod_nonneg b (a := -a) (by omega)
  rw [Int.neg_tmod] at this
  omega

/-- Is the quotient of two integers less than what cutting gives? -/
def low (a b : Int) : Bool := a.tmod b != 0 && (decide (a < 0) != decide (b < 0))
def divS (a b : Int) : Int := a.tdiv b - if low a b then 1 else 0
def modS (a b : Int) : Int := a.tmod b + if low a b then b else 0
theorem divS_low {a b : Int} (h : low a b = true) : divS a b = a.tdiv b - 1 := by unfold divS; rw [if_pos h]
theorem divS_not {a b : Int} (h : low a b = false) : divS a b = a.tdiv b := by unfold divS; rw [h]; simp
theorem modS_low {a b : Int} (h : low a b = true) : modS a b = a.tmod b + b := by unfold modS; rw [if_pos h]
theorem modS_not {a b : Int} (h : low a b = false) : modS a b = a.tmod b := by unfold modS; rw [h]; simp
theorem low_mk {a b : Int} (h : (a.tmod b != 0) = true ∧ (!decide (a < 0) == decide (b < 0)) = true) : low a b = true := by
  unfold low; rw [h.1]; simpa [bne] using h.2
theorem low_not0 {a b : Int} (h : a.tmod b = 0) : low a b = false := by unfold low; rw [h]; rfl
theorem low_no {a b : Int} (h : (a.tmod b != 0) = false ∨ (!decide (a < 0) == decide (b < 0)) = false) : low a b = false := by
  unfold low
  rcases h with h | h
  · rw [h]; rfl
  · rw [show (decide (a < 0) != decide (b < 0)) = false from h]; simp
theorem low_parts {a b : Int} (h : low a b = true) : ¬ a.tmod b = 0 ∧ (decide (a < 0) != decide (b < 0)) = true := by
  unfold low at h
  simp only [Bool.and_eq_true] at h
  exact ⟨by simpa using h.1, h.2⟩
theorem tdiv_low {a b : Int} (ha : -9223372036854775808 ≤ a) (ha' : a ≤ 9223372036854775807) (hz : ¬ b = 0) (h : low a b = true) :
    -9223372036854775808 ≤ a.tdiv b - 1 ∧ a.tdiv b - 1 ≤ 9223372036854775807 := by
  have h1 : (a.tdiv b).natAbs = a.natAbs / b.natAbs := Int.natAbs_tdiv a b
  have hb : 2 ≤ b.natAbs := by
    have h2 := (low_parts h).1
    have h3 := tmod_bd a b hz
    omega
  have h4 : a.natAbs / b.natAbs ≤ a.natAbs / 2 := Nat.div_le_div_left hb (by omega)
  omega
theorem modS_bd (a b : Int) (hz : ¬ b = 0) : (modS a b).natAbs < b.natAbs := by
  have h1 := tmod_bd a b hz
  have h2 := tmod_sign a b
  unfold modS low
  split
  · rename_i h
    simp at h
    by_cases ha : a < 0 <;> by_cases hb : b < 0 <;> simp [ha, hb] at h <;> omega
  · omega

end Go.Proofs.Ytifjdfdjojkagaa
