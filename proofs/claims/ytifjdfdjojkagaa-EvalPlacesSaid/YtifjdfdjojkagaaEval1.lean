/- What an expression comes to: in plain words; the walks through eval.must, eval.unknown. -/
import Derived.Test.YtifjdfdjojkagaaTerm
import Derived.Test.YtifjdfdjojkagaaNum2
import Derived.Test.YtifjdfdjojkagaaNum3
namespace Go.Proofs.Ytifjdfdjojkagaa
open Go.RowKit

/-- A number, or a fault: kind, name, number. -/
inductive Ev where
  | val (n : Int)
  | flt (k : Int) (s : ByteArray) (n : Int)

/-- The Go values of the bytes of no name. -/
def noName : ByteArray := ⟨#[]⟩
def evEnd : Ev → Ending
  | .val n => .returned (.int .i64 n)
  | .flt k s n => .panicked [{ v := .iface 43 (.agg #[.int .i64 k, .string s, .int .i64 n]), recovered := false }]
/-- A number and an error, as a number or a fault. -/
def ev (x e : Int) (s : ByteArray) (m : Nat) : Ev := if e = 0 then .val x else if e = 11 then .flt 3 noName 0 else if e = 10 then .flt 4 noName 0 else .flt 2 s m

set_option maxHeartbeats 1000000 in
theorem must_any (k n : Int) (s : ByteArray) (A : Option Addr) (m c : Nat) (x e : Int) (w : World) :
    Calls Try.prog 44 #[.agg #[.int .i64 k, .int .i64 n, .string s, .slice A m c], .int .i64 x, .int .i64 e] w fun r w' => r = evEnd (ev x e s m) ∧ Below w.heap.size w w' := by
  by_cases h0 : e = 0
  · subst h0
    go_enter Try.func44, Try.ntmps44
    go_wp2
    go_ret
    exact ⟨rfl, ((Below.refl _ _).alloc (Nat.le_refl _) _).alloc (by simp) _⟩
  by_cases h1 : e = 11
  · subst h1
    go_enter Try.func44, Try.ntmps44
    go_wp2
    exact ⟨rfl, rfl, ((Below.refl _ _).alloc (Nat.le_refl _) _).alloc (by simp) _⟩
  by_cases h2 : e = 10
  · subst h2
    go_enter Try.func44, Try.ntmps44
    go_wp2
    exact ⟨rfl, rfl, ((Below.refl _ _).alloc (Nat.le_refl _) _).alloc (by simp) _⟩
  go_enter Try.func44, Try.ntmps44
  go_wp2
  exact ⟨rfl, by simp [ev, evEnd, h0, h1, h2], ((Below.refl _ _).alloc (Nat.le_refl _) _).alloc (by simp) _⟩
end Go.Proofs.Ytifjdfdjojkagaa
