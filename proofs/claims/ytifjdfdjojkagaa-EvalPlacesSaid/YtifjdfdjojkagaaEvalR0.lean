/- The walks through coneyref13: fault, oneArg, twoArgs. -/
import Derived.Test.YtifjdfdjojkagaaEval6
namespace Go.Proofs.Ytifjdfdjojkagaa
open Go.RowKit

set_option maxHeartbeats 1000000 in
theorem oneArg_any (s : ByteArray) (w : World) :
    Calls Try.prog 18 #[.string s] w fun r w' => r = .returned (.bool (isOne s.toList)) ∧ w = w' := by
  go_enter Try.func18, Try.ntmps18
  go_wp2
  all_goals
    go_ret
    exact ⟨by simp [isOne, *], rfl⟩
set_option maxHeartbeats 1000000 in
theorem twoArgs_any (s : ByteArray) (w : World) :
    Calls Try.prog 19 #[.string s] w fun r w' => r = .returned (.bool (isTwo s.toList)) ∧ w = w' := by
  go_enter Try.func19, Try.ntmps19
  go_wp2
  all_goals
    go_ret
    exact ⟨by first | (simp [isTwo, *]; done) | (exfalso; simp_all; done) | simp_all [isTwo], rfl⟩
/-- The fault that goes with an error. -/
def fltV (e : Int) (s : ByteArray) (n : Int) : Value :=
  if e = 11 then .agg #[.int .i64 3, .string noName, .int .i64 0] else if e = 10 then .agg #[.int .i64 4, .string noName, .int .i64 0]
  else if e = 1 then .agg #[.int .i64 2, .string s, .int .i64 n] else .agg #[.int .i64 0, .string noName, .int .i64 0]
set_option maxHeartbeats 1000000 in
theorem fault_any (e : Int) (s : ByteArray) (n : Int) (w : World) :
    Calls Try.prog 21 #[.int .i64 e, .string s, .int .i64 n] w fun r w' => r = .returned (fltV e s n) ∧ Below w.heap.size w w' := by
  by_cases h1 : e = 11
  · subst h1
    go_enter Try.func21, Try.ntmps21
    go_wp2
    refine bodyPost_ret (v := .agg #[.int .i64 3, .string ⟨#[]⟩, .int .i64 0]) (by simp [results, go_sem]) rfl ?_
    exact ⟨rfl, (Below.refl _ _).alloc (Nat.le_refl _) _⟩
  by_cases h2 : e = 10
  · subst h2
    go_enter Try.func21, Try.ntmps21
    go_wp2
    refine bodyPost_ret (v := .agg #[.int .i64 4, .string ⟨#[]⟩, .int .i64 0]) (by simp [results, go_sem]) rfl ?_
    exact ⟨rfl, (Below.refl _ _).alloc (Nat.le_refl _) _⟩
  by_cases h3 : e = 1
  · subst h3
    go_enter Try.func21, Try.ntmps21
    go_wp2
    refine bodyPost_ret (v := .agg #[.int .i64 2, .string s, .int .i64 n]) (by simp [results, go_sem]) rfl ?_
    exact ⟨rfl, (Below.refl _ _).alloc (Nat.le_refl _) _⟩
  go_enter Try.func21, Try.ntmps21
  go_wp2
  refine bodyPost_ret (v := .agg #[.int .i64 0, .string ⟨#[]⟩, .int .i64 0]) (by simp [results, go_sem]) rfl ?_
  exact ⟨by simp [fltV, h1, h2, h3, noName], (Below.refl _ _).alloc (Nat.le_refl _) _⟩

end Go.Proofs.Ytifjdfdjojkagaa
