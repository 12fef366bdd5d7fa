/- The walks through eval.Holds, coneyref13.Holds, and the law EvalHolds. -/
import Derived.Test.YtifjdfdjojkagaaNum1
import Derived.Lib.Hide
namespace Go.Proofs.Ytifjdfdjojkagaa
open Go.RowKit

def holdV (l : List UInt8) (a b : Int) : Bool :=
  if l == [61, 58, 61] then a == b else if l == [61, 92, 61] then a != b else if l == [60] then decide (a < b) else if l == [62] then decide (b < a)
  else if l == [61, 60] then decide (a ≤ b) else if l == [62, 61] then decide (b ≤ a) else false
def holdK (l : List UInt8) : Bool := l == [61, 58, 61] || l == [61, 92, 61] || l == [60] || l == [62] || l == [61, 60] || l == [62, 61]

set_option maxHeartbeats 2000000 in
theorem rHolds_any (s : ByteArray) (a b : Int) (w : World) :
    Calls Try.prog 9 #[.string s, .int .i64 a, .int .i64 b] w fun e w' => e = .returned (.tuple #[.bool (holdV s.toList a b), .bool (holdK s.toList)]) ∧ w = w' := by
  go_enter Try.func9, Try.ntmps9
  go_wp2
  all_goals
    go_ret2
    exact ⟨ret2 (vbool (by simp [holdV, *])) (vbool (by simp [holdK, *])), rfl⟩
set_option maxHeartbeats 2000000 in
theorem holds_any (s : ByteArray) (a b : Int) (w : World) :
    Calls Try.prog 8 #[.string s, .int .i64 a, .int .i64 b] w fun e w' => e = .returned (.tuple #[.bool (holdV s.toList a b), .bool (holdK s.toList)]) ∧ w = w' := by
  rcases Int.lt_trichotomy a b with h | h | h
  · have h2 : ¬ b < a := by omega
    have h3 : ¬ b ≤ a := by omega
    have h4 : a ≤ b := by omega
    have h5 : ¬ a = b := by omega
    go_enter Try.func8, Try.ntmps8
    go_wp2
    all_goals
      go_ret2
      exact ⟨ret2 (vbool (by simp [holdV, *])) (vbool (by simp [holdK, *])), rfl⟩
  · subst h
    go_enter Try.func8, Try.ntmps8
    go_wp2
    all_goals
      go_ret2
      exact ⟨ret2 (vbool (by simp [holdV, *])) (vbool (by simp [holdK, *])), rfl⟩
  · have h2 : ¬ a < b := by omega
    have h3 : ¬ a ≤ b := by omega
    have h4 : b ≤ a := by omega
    have h5 : ¬ a = b := by omega
    go_enter Try.func8, Try.ntmps8
    go_wp2
    all_goals
      go_ret2
      exact ⟨ret2 (vbool (by simp [holdV, *])) (vbool (by simp [holdK, *])), rfl⟩

set_option maxRecDepth 100000 in
set_option maxHeartbeats 2000000 in
theorem law_holds_any (s : ByteArray) (a b : Int) (w : World) :
    Calls Try.prog 3 #[.string s, .int .i64 a, .int .i64 b] w fun e w' => e = .returned (.bool true) ∧ Below w.heap.size w w' := by
  go_enter Try.func3, Try.ntmps3
  by_cases h : (s.size : Int) ≤ 1024
  · go_wp2
    go_loopw [8] (fun iv wr => ∃ i : Nat, i ≤ 7 ∧ iv = .int .i64 (i : Int) ∧ (∀ i : Nat, i < 7 → ∃ t : ByteArray, wr.cell? { block := w.heap.size, off := i } = some (.string t)) ∧ Below w.heap.size w wr) (fun iv _ => 7 - (intOf iv).toNat)
    case atStart =>
      refine ⟨0, by omega, rfl, fun i hi => ?_, (Below.refl _ _).alloc (Nat.le_refl _) _⟩
      have hr := fun (j : Nat) => cell_of_row _ _ j _ _ _ (heap_alloc_new w (Obj.cells #[Value.string s, Value.string { data := #[61, 58, 61] }, Value.string { data := #[61, 92, 61] }, Value.string { data := #[60] }, Value.string { data := #[62] }, Value.string { data := #[61, 60] }, Value.string { data := #[62, 61] }] 9))
      match i, hi with
      | 0, _ => exact ⟨_, hr 0⟩
      | 1, _ => exact ⟨_, hr 1⟩
      | 2, _ => exact ⟨_, hr 2⟩
      | 3, _ => exact ⟨_, hr 3⟩
      | 4, _ => exact ⟨_, hr 4⟩
      | 5, _ => exact ⟨_, hr 5⟩
      | 6, _ => exact ⟨_, hr 6⟩
    case round =>
      obtain ⟨i, hi, rfl, hc, hbl⟩ := hrel
      have HC := Lib.hid hc
      have HBL := Lib.hid hbl
      clear hc hbl
      by_cases h7 : i < 7
      · obtain ⟨t, ht⟩ := HC.out i h7
        have h7' : (i : Int) < 7 := by omega
        go_wp2_with fail
        refine (holds_any t a b _).mono ?_
        rintro e wx ⟨rfl, rfl⟩
        go_wp2_with fail
        refine (rHolds_any t a b _).mono ?_
        rintro e wx ⟨rfl, rfl⟩
        go_wp2_with fail
        go_roundw
        case rel => exact ⟨i + 1, by omega, by go_num, HC.out, HBL.out⟩
        case measure => simp [intOf]; omega
      · obtain rfl : i = 7 := by omega
        go_wp2_with fail
        go_ret
        exact ⟨rfl, HBL.out⟩
  · go_wp2
    go_ret
    exact ⟨rfl, Below.refl _ _⟩
end Go.Proofs.Ytifjdfdjojkagaa
