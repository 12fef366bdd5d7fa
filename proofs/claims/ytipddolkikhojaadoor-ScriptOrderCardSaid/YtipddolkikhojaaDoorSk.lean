/- May limits be: both Checks; the places of limits. -/
import Derived.Test.YtipddolkikhojaaDoorSl
namespace Go.Proofs.YtipddolkikhojaaDoor
open Go.RowKit

def ge1 (n m : Int) : Bool := decide (1 ≤ n ∧ n ≤ m)
theorem lim4_ge (a b c d : Int) : lim4 a b c d = (ge1 a 100000 && (ge1 b 1000 && (ge1 c 1000 && ge1 d 100))) := by
  unfold lim4 ge1
  rw [← Bool.decide_and, ← Bool.decide_and, ← Bool.decide_and]
  congr 1
  simp only [and_assoc]
def LimV (a b c d : Int) : Value := .agg #[.int .i64 a, .int .i64 b, .int .i64 c, .int .i64 d]
set_option maxRecDepth 100000 in
set_option maxHeartbeats 4000000 in
theorem rcheck_any (a b c d : Int) (w : World) : Calls Tryd.prog 21 #[.agg #[.int .i64 a, .int .i64 b, .int .i64 c, .int .i64 d]] w fun e w' => e = .returned (.int .i64 (lim4E a b c d)) ∧ Below w.heap.size w w' := by
  have C1 := Lib.hid (fun (W : World) => within_any' a 1 100000 W)
  have C2 := Lib.hid (fun (W : World) => within_any' b 1 1000 W)
  have C3 := Lib.hid (fun (W : World) => within_any' c 1 1000 W)
  have C4 := Lib.hid (fun (W : World) => within_any' d 1 100 W)
  have HL := lim4_ge a b c d
  unfold lim4E
  rw [HL]
  have e1 : decide (1 ≤ a ∧ a ≤ 100000) = ge1 a 100000 := rfl
  have e2 : decide (1 ≤ b ∧ b ≤ 1000) = ge1 b 1000 := rfl
  have e3 : decide (1 ≤ c ∧ c ≤ 1000) = ge1 c 1000 := rfl
  have e4 : decide (1 ≤ d ∧ d ≤ 100) = ge1 d 100 := rfl
  rw [e1] at C1
  rw [e2] at C2
  rw [e3] at C3
  rw [e4] at C4
  clear HL e1 e2 e3 e4
  generalize ge1 a 100000 = b1 at *
  generalize ge1 b 1000 = b2 at *
  generalize ge1 c 1000 = b3 at *
  generalize ge1 d 100 = b4 at *
  obtain ⟨W1, hW1⟩ : ∃ W1, w.alloc (Obj.cells #[.int .i64 a, .int .i64 b, .int .i64 c, .int .i64 d] 36) = W1 := ⟨_, rfl⟩
  have BX := Lib.hid (belA (Below.refl w.heap.size w) (Obj.cells #[.int .i64 a, .int .i64 b, .int .i64 c, .int .i64 d] 36))
  obtain ⟨x0, x1, x2, x3⟩ := box4t (heap_alloc_new w (Obj.cells #[.int .i64 a, .int .i64 b, .int .i64 c, .int .i64 d] 36))
  clear hW1 W1
  cases b1 with
  | false =>
    go_enter Tryd.func21, Tryd.ntmps21
    go_wp2_with (go_at_call 43; refine (C1.out _).mono ?_; rintro e w' ⟨rfl, rfl⟩)
    go_ret
    exact ⟨rfl, BX.out⟩
  | true =>
  cases b2 with
  | false =>
    go_enter Tryd.func21, Tryd.ntmps21
    go_wp2_with (go_at_call 43; (first | (with_reducible refine (C1.out _).mono ?_) | (with_reducible refine (C2.out _).mono ?_)); rintro e w' ⟨rfl, rfl⟩)
    go_ret
    exact ⟨rfl, BX.out⟩
  | true =>
  cases b3 with
  | false =>
    go_enter Tryd.func21, Tryd.ntmps21
    go_wp2_with (go_at_call 43; (first | (with_reducible refine (C1.out _).mono ?_) | (with_reducible refine (C2.out _).mono ?_) | (with_reducible refine (C3.out _).mono ?_)); rintro e w' ⟨rfl, rfl⟩)
    go_ret
    exact ⟨rfl, BX.out⟩
  | true =>
  cases b4 with
  | false =>
    go_enter Tryd.func21, Tryd.ntmps21
    go_wp2_with (go_at_call 43; (first | (with_reducible refine (C1.out _).mono ?_) | (with_reducible refine (C2.out _).mono ?_) | (with_reducible refine (C3.out _).mono ?_) | (with_reducible refine (C4.out _).mono ?_)); rintro e w' ⟨rfl, rfl⟩)
    go_ret
    exact ⟨rfl, BX.out⟩
  | true =>
    go_enter Tryd.func21, Tryd.ntmps21
    go_wp2_with (go_at_call 43; (first | (with_reducible refine (C1.out _).mono ?_) | (with_reducible refine (C2.out _).mono ?_) | (with_reducible refine (C3.out _).mono ?_) | (with_reducible refine (C4.out _).mono ?_)); rintro e w' ⟨rfl, rfl⟩)
    go_ret
    exact ⟨rfl, BX.out⟩
theorem within1_any (n b : Int) (w : World) : Calls Tryd.prog 53 #[.int .i64 n, .int .i64 b] w fun e w' => e = .returned (.bool (ge1 n b)) ∧ w' = w := by
  unfold ge1
  by_cases h1 : 1 ≤ n
  · by_cases h2 : n ≤ b
    · rw [decide_eq_true ⟨h1, h2⟩]
      go_enter Tryd.func53, Tryd.ntmps53
      go_wp2
      go_ret
      exact ⟨rfl, rfl⟩
    · rw [decide_eq_false fun h => h2 h.2]
      go_enter Tryd.func53, Tryd.ntmps53
      go_wp2
      go_ret
      exact ⟨rfl, rfl⟩
  · rw [decide_eq_false fun h => h1 h.1]
    go_enter Tryd.func53, Tryd.ntmps53
    go_wp2
    go_ret
    exact ⟨rfl, rfl⟩
set_option maxRecDepth 100000 in
set_option maxHeartbeats 4000000 in
theorem pcheck_any (a b c d : Int) (w : World) : Calls Tryd.prog 34 #[.agg #[.int .i64 a, .int .i64 b, .int .i64 c, .int .i64 d]] w fun e w' => e = .returned (.int .i64 (lim4E a b c d)) ∧ Below w.heap.size w w' := by
  have C1 := Lib.hid (fun (W : World) => within1_any a 100000 W)
  have C2 := Lib.hid (fun (W : World) => within1_any b 1000 W)
  have C3 := Lib.hid (fun (W : World) => within1_any c 1000 W)
  have C4 := Lib.hid (fun (W : World) => within1_any d 100 W)
  unfold lim4E
  rw [lim4_ge a b c d]
  generalize ge1 a 100000 = b1 at *
  generalize ge1 b 1000 = b2 at *
  generalize ge1 c 1000 = b3 at *
  generalize ge1 d 100 = b4 at *
  have BX := Lib.hid (belA (Below.refl w.heap.size w) (Obj.cells #[.int .i64 a, .int .i64 b, .int .i64 c, .int .i64 d] 36))
  obtain ⟨x0, x1, x2, x3⟩ := box4t (heap_alloc_new w (Obj.cells #[.int .i64 a, .int .i64 b, .int .i64 c, .int .i64 d] 36))
  cases b1 with
  | false =>
    go_enter Tryd.func34, Tryd.ntmps34
    go_wp2_with (go_at_call 53; refine (C1.out _).mono ?_; rintro e w' ⟨rfl, rfl⟩)
    go_ret
    exact ⟨rfl, BX.out⟩
  | true =>
  cases b2 with
  | false =>
    go_enter Tryd.func34, Tryd.ntmps34
    go_wp2_with (go_at_call 53; (first | (with_reducible refine (C1.out _).mono ?_) | (with_reducible refine (C2.out _).mono ?_)); rintro e w' ⟨rfl, rfl⟩)
    go_ret
    exact ⟨rfl, BX.out⟩
  | true =>
  cases b3 with
  | false =>
    go_enter Tryd.func34, Tryd.ntmps34
    go_wp2_with (go_at_call 53; (first | (with_reducible refine (C1.out _).mono ?_) | (with_reducible refine (C2.out _).mono ?_) | (with_reducible refine (C3.out _).mono ?_)); rintro e w' ⟨rfl, rfl⟩)
    go_ret
    exact ⟨rfl, BX.out⟩
  | true =>
  cases b4 with
  | false =>
    go_enter Tryd.func34, Tryd.ntmps34
    go_wp2_with (go_at_call 53; (first | (with_reducible refine (C1.out _).mono ?_) | (with_reducible refine (C2.out _).mono ?_) | (with_reducible refine (C3.out _).mono ?_) | (with_reducible refine (C4.out _).mono ?_)); rintro e w' ⟨rfl, rfl⟩)
    go_ret
    exact ⟨rfl, BX.out⟩
  | true =>
    go_enter Tryd.func34, Tryd.ntmps34
    go_wp2_with (go_at_call 53; (first | (with_reducible refine (C1.out _).mono ?_) | (with_reducible refine (C2.out _).mono ?_) | (with_reducible refine (C3.out _).mono ?_) | (with_reducible refine (C4.out _).mono ?_)); rintro e w' ⟨rfl, rfl⟩)
    go_ret
    exact ⟨rfl, BX.out⟩
end Go.Proofs.YtipddolkikhojaaDoor
