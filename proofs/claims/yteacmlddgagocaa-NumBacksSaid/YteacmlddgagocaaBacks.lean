/- The walk through the law NumBacks. -/
import Derived.Test.YteacmlddgagocaaRef7
import Derived.Test.YteacmlddgagocaaNum2
namespace Go.Proofs.Yteacmlddgagocaa
open Go.RowKit
set_option linter.unusedVariables false

theorem backs_add (a b : Int) (ha : -9223372036854775808 ≤ a) (ha' : a ≤ 9223372036854775807) :
    (fitE (a + b) = 0 ∧ fitV (a + b) = a + b ∧ -9223372036854775808 ≤ a + b ∧ a + b ≤ 9223372036854775807 ∧ fitV (a + b - b) = a ∧ fitE (a + b - b) = 0) ∨ (fitE (a + b) = 10 ∧ fitV (a + b) = 0) := by
  rcases fit_cases (a + b) with ⟨h1, h2, h3, h4⟩ | ⟨_, h3, h4⟩
  · refine .inl ⟨h4, h3, h1, h2, ?_, ?_⟩
    · rw [Int.add_sub_cancel, fitV_in ha ha']
    · rw [Int.add_sub_cancel, fitE_in ha ha']
  · exact .inr ⟨h4, h3⟩
theorem backs_mul (a b : Int) (ha : -9223372036854775808 ≤ a) (ha' : a ≤ 9223372036854775807) (hz : ¬ b = 0) :
    fitV ((a * b).tdiv b) = a ∧ fitE ((a * b).tdiv b) = 0 ∧ (a * b).tmod b = 0 := by
  rw [Int.mul_tdiv_cancel a hz]
  exact ⟨fitV_in ha ha', fitE_in ha ha', Int.mul_tmod_left a b⟩

def C3 (f : Nat) (a b x e : Int) : Prop := ∀ w : World, Calls Try.prog f #[.int .i64 a, .int .i64 b] w fun r w' => r = .returned (.tuple #[.int .i64 x, .int .i64 e]) ∧ w = w'
def C4 (f : Nat) (a b x e : Int) : Prop := ∀ w : World, Calls Try.prog f #[.int .i64 a, .int .i64 b] w fun r w' => r = .returned (.tuple #[.int .i64 x, .int .i64 e]) ∧ Below w.heap.size w w'

set_option maxRecDepth 100000 in
set_option maxHeartbeats 2000000 in
theorem backs_00 (a b S p : Int) (w : World) (hA : C3 22 a b S 0) (hR : C4 23 a b S 0) (hS : C3 24 S b a 0) (hM : C3 30 a b p 0) (hQ : C3 14 p b a 0) (hT : C3 16 p b 0 0) (z : (b == 0) = false) :
    Calls Try.prog 9 #[.int .i64 a, .int .i64 b] w fun e w' => e = .returned (.bool true) ∧ Below w.heap.size w w' := by
  go_enter Try.func9, Try.ntmps9
  go_wp2_with fail
  refine (hA _).mono ?_
  rintro e w1 ⟨rfl, rfl⟩
  go_wp2_with fail
  refine (hR _).mono ?_
  rintro e w1 ⟨rfl, h1⟩
  have H1 := Lib.hid h1
  clear h1
  go_wp2_with fail
  refine (hS _).mono ?_
  rintro e w2 ⟨rfl, rfl⟩
  go_wp2_with fail
  refine (hM _).mono ?_
  rintro e w2 ⟨rfl, rfl⟩
  go_wp2_with fail
  refine (hQ _).mono ?_
  rintro e w2 ⟨rfl, rfl⟩
  go_wp2_with fail
  refine (hT _).mono ?_
  rintro e w2 ⟨rfl, rfl⟩
  go_wp2
  go_ret
  exact ⟨congrArg Ending.returned (vbool (by first | rfl | (simp; done))), H1.out⟩

set_option maxRecDepth 100000 in
set_option maxHeartbeats 2000000 in
theorem backs_00z (a b S p : Int) (w : World) (hA : C3 22 a b S 0) (hR : C4 23 a b S 0) (hS : C3 24 S b a 0) (hM : C3 30 a b p 0) (z : (b == 0) = true) (hp : (p == 0) = true) :
    Calls Try.prog 9 #[.int .i64 a, .int .i64 b] w fun e w' => e = .returned (.bool true) ∧ Below w.heap.size w w' := by
  go_enter Try.func9, Try.ntmps9
  go_wp2_with fail
  refine (hA _).mono ?_
  rintro e w1 ⟨rfl, rfl⟩
  go_wp2_with fail
  refine (hR _).mono ?_
  rintro e w1 ⟨rfl, h1⟩
  have H1 := Lib.hid h1
  clear h1
  go_wp2_with fail
  refine (hS _).mono ?_
  rintro e w2 ⟨rfl, rfl⟩
  go_wp2_with fail
  refine (hM _).mono ?_
  rintro e w2 ⟨rfl, rfl⟩
  go_wp2
  go_ret
  exact ⟨congrArg Ending.returned (vbool (by first | rfl | exact hp | (simp; done))), H1.out⟩

set_option maxRecDepth 100000 in
set_option maxHeartbeats 2000000 in
theorem backs_01 (a b S p : Int) (w : World) (hA : C3 22 a b S 0) (hR : C4 23 a b S 0) (hS : C3 24 S b a 0) (hM : C3 30 a b p 10) (z : (b == 0) = false) (hp : (p == 0) = true) :
    Calls Try.prog 9 #[.int .i64 a, .int .i64 b] w fun e w' => e = .returned (.bool true) ∧ Below w.heap.size w w' := by
  go_enter Try.func9, Try.ntmps9
  go_wp2_with fail
  refine (hA _).mono ?_
  rintro e w1 ⟨rfl, rfl⟩
  go_wp2_with fail
  refine (hR _).mono ?_
  rintro e w1 ⟨rfl, h1⟩
  have H1 := Lib.hid h1
  clear h1
  go_wp2_with fail
  refine (hS _).mono ?_
  rintro e w2 ⟨rfl, rfl⟩
  go_wp2_with fail
  refine (hM _).mono ?_
  rintro e w2 ⟨rfl, rfl⟩
  go_wp2
  go_ret
  exact ⟨congrArg Ending.returned (vbool (by first | rfl | exact hp | (simp; done))), H1.out⟩

set_option maxRecDepth 100000 in
set_option maxHeartbeats 2000000 in
theorem backs_10 (a b S p : Int) (w : World) (hA : C3 22 a b S 10) (hR : C4 23 a b S 10) (hM : C3 30 a b p 0) (hQ : C3 14 p b a 0) (hT : C3 16 p b 0 0) (z : (b == 0) = false) :
    Calls Try.prog 9 #[.int .i64 a, .int .i64 b] w fun e w' => e = .returned (.bool true) ∧ Below w.heap.size w w' := by
  go_enter Try.func9, Try.ntmps9
  go_wp2_with fail
  refine (hA _).mono ?_
  rintro e w1 ⟨rfl, rfl⟩
  go_wp2_with fail
  refine (hR _).mono ?_
  rintro e w1 ⟨rfl, h1⟩
  have H1 := Lib.hid h1
  clear h1
  go_wp2_with fail
  refine (hM _).mono ?_
  rintro e w2 ⟨rfl, rfl⟩
  go_wp2_with fail
  refine (hQ _).mono ?_
  rintro e w2 ⟨rfl, rfl⟩
  go_wp2_with fail
  refine (hT _).mono ?_
  rintro e w2 ⟨rfl, rfl⟩
  go_wp2
  go_ret
  exact ⟨congrArg Ending.returned (vbool (by first | rfl | (simp; done))), H1.out⟩

set_option maxRecDepth 100000 in
set_option maxHeartbeats 2000000 in
theorem backs_10z (a b S p : Int) (w : World) (hA : C3 22 a b S 10) (hR : C4 23 a b S 10) (hM : C3 30 a b p 0) (z : (b == 0) = true) (hp : (p == 0) = true) :
    Calls Try.prog 9 #[.int .i64 a, .int .i64 b] w fun e w' => e = .returned (.bool true) ∧ Below w.heap.size w w' := by
  go_enter Try.func9, Try.ntmps9
  go_wp2_with fail
  refine (hA _).mono ?_
  rintro e w1 ⟨rfl, rfl⟩
  go_wp2_with fail
  refine (hR _).mono ?_
  rintro e w1 ⟨rfl, h1⟩
  have H1 := Lib.hid h1
  clear h1
  go_wp2_with fail
  refine (hM _).mono ?_
  rintro e w2 ⟨rfl, rfl⟩
  go_wp2
  go_ret
  exact ⟨congrArg Ending.returned (vbool (by first | rfl | exact hp | (simp; done))), H1.out⟩

set_option maxRecDepth 100000 in
set_option maxHeartbeats 2000000 in
theorem backs_11 (a b S p : Int) (w : World) (hA : C3 22 a b S 10) (hR : C4 23 a b S 10) (hM : C3 30 a b p 10) (z : (b == 0) = false) (hp : (p == 0) = true) :
    Calls Try.prog 9 #[.int .i64 a, .int .i64 b] w fun e w' => e = .returned (.bool true) ∧ Below w.heap.size w w' := by
  go_enter Try.func9, Try.ntmps9
  go_wp2_with fail
  refine (hA _).mono ?_
  rintro e w1 ⟨rfl, rfl⟩
  go_wp2_with fail
  refine (hR _).mono ?_
  rintro e w1 ⟨rfl, h1⟩
  have H1 := Lib.hid h1
  clear h1
  go_wp2_with fail
  refine (hM _).mono ?_
  rintro e w2 ⟨rfl, rfl⟩
  go_wp2
  go_ret
  exact ⟨congrArg Ending.returned (vbool (by first | rfl | exact hp | (simp; done))), H1.out⟩


theorem backs_any (a b : Int) (w : World) (ha : -9223372036854775808 ≤ a) (ha' : a ≤ 9223372036854775807) (hb : -9223372036854775808 ≤ b) (hb' : b ≤ 9223372036854775807) :
    Calls Try.prog 9 #[.int .i64 a, .int .i64 b] w fun e w' => e = .returned (.bool true) ∧ Below w.heap.size w w' := by
  have hA : C3 22 a b (fitV (a + b)) (fitE (a + b)) := fun w => add_any a b w ha ha' hb hb'
  have hR : C4 23 a b (fitV (a + b)) (fitE (a + b)) := fun w => rAdd_any a b w ha ha' hb hb'
  have hM : C3 30 a b (fitV (a * b)) (fitE (a * b)) := fun w => mul_any a b w ha ha' hb hb'
  have hS : fitE (a + b) = 0 → C3 24 (fitV (a + b)) b a 0 := fun h => by
    rcases backs_add a b ha ha' with ⟨_, hv, l1, l2, v2, e2⟩ | ⟨h', _⟩
    · intro w
      have := sub_any (a + b) b w l1 l2 hb hb'
      rw [v2, e2] at this
      rw [hv]
      exact this
    · rw [h] at h'; cases h'
  have hQT : ¬ b = 0 → fitE (a * b) = 0 → C3 14 (fitV (a * b)) b a 0 ∧ C3 16 (fitV (a * b)) b 0 0 := fun hz h => by
    rcases fit_cases (a * b) with ⟨l1, l2, hv, _⟩ | ⟨_, _, h'⟩
    · obtain ⟨q1, q2, q3⟩ := backs_mul a b ha ha' hz
      rw [hv]
      refine ⟨fun w => ?_, fun w => ?_⟩
      · have := quo_any (a * b) b w l1 l2 hz
        rwa [q1, q2] at this
      · have := rem_any (a * b) b w hz
        rwa [q3] at this
    · rw [h] at h'; cases h'
  have hE1 : fitE (a + b) = 0 ∨ fitE (a + b) = 10 := by rcases fit_cases (a + b) with ⟨_, _, _, h⟩ | ⟨_, _, h⟩ <;> omega
  have hE2 : fitE (a * b) = 0 ∨ fitE (a * b) = 10 ∧ fitV (a * b) = 0 := by
    rcases fit_cases (a * b) with ⟨_, _, _, h⟩ | ⟨_, h', h⟩
    · exact .inl h
    · exact .inr ⟨h, h'⟩
  by_cases hz : b = 0
  · have z : (b == 0) = true := by simpa using hz
    have hp : (fitV (a * b) == 0) = true := by rw [hz, Int.mul_zero]; rfl
    have he : fitE (a * b) = 0 := by rw [hz, Int.mul_zero]; rfl
    rw [he] at hM
    rcases hE1 with h | h
    · have hs := hS h
      rw [h] at hA hR
      exact backs_00z a b _ _ w hA hR hs hM z hp
    · rw [h] at hA hR
      exact backs_10z a b _ _ w hA hR hM z hp
  · have z : (b == 0) = false := by simpa using hz
    rcases hE2 with h2 | ⟨h2, h3⟩
    · obtain ⟨hQ, hT⟩ := hQT hz h2
      rw [h2] at hM
      rcases hE1 with h | h
      · have hs := hS h
        rw [h] at hA hR
        exact backs_00 a b _ _ w hA hR hs hM hQ hT z
      · rw [h] at hA hR
        exact backs_10 a b _ _ w hA hR hM hQ hT z
    · rw [h2] at hM
      have hp : (fitV (a * b) == 0) = true := by rw [h3]; rfl
      rcases hE1 with h | h
      · have hs := hS h
        rw [h] at hA hR
        exact backs_01 a b _ _ w hA hR hs hM z hp
      · rw [h] at hA hR
        exact backs_11 a b _ _ w hA hR hM z hp
end Go.Proofs.Yteacmlddgagocaa
