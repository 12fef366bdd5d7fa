/- The walks through eval.by, eval.one, eval.two, eval.value. -/
import Derived.Test.YtifjdfdjojkagaaEval1
namespace Go.Proofs.Ytifjdfdjojkagaa
open Go.RowKit

/-- The function that a name is. -/
def fnV (l : List UInt8) : Value :=
  if l == [43] then .func (.func 71) #[] #[]
  else if l == [45] then .func (.func 68) #[] #[]
  else if l == [42] then .func (.func 72) #[] #[]
  else if l == [47, 47] then .func (.func 73) #[] #[]
  else if l == [114, 101, 109] then .func (.func 74) #[] #[]
  else if l == [100, 105, 118] then .func (.func 75) #[] #[]
  else if l == [109, 111, 100] then .func (.func 76) #[] #[]
  else if l == [94] then .func (.func 77) #[] #[]
  else if l == [103, 99, 100] then .func (.func 78) #[] #[]
  else if l == [60, 60] then .func (.func 79) #[] #[]
  else if l == [62, 62] then .func (.func 80) #[] #[]
  else if l == [109, 105, 110] then .func (.func 81) #[] #[]
  else if l == [109, 97, 120] then .func (.func 82) #[] #[]
  else .nilFunc
def isTwo (l : List UInt8) : Bool := l == [43] || l == [45] || l == [42] || l == [47, 47] || l == [114, 101, 109] || l == [100, 105, 118] || l == [109, 111, 100] || l == [94] || l == [103, 99, 100] || l == [60, 60] || l == [62, 62] || l == [109, 105, 110] || l == [109, 97, 120]
def isOne (l : List UInt8) : Bool := l == [43] || l == [45] || l == [97, 98, 115] || l == [115, 105, 103, 110]
/-- What an operator of two numbers comes to: a number, an error. -/
def num2 (l : List UInt8) (x y : Int) : Int × Int :=
  if l == [43] then ((fitV (x + y), fitE (x + y)))
  else if l == [45] then ((fitV (x - y), fitE (x - y)))
  else if l == [42] then ((fitV (x * y), fitE (x * y)))
  else if l == [47, 47] then (if y = 0 then (0, 11) else (fitV (x.tdiv y), fitE (x.tdiv y)))
  else if l == [114, 101, 109] then (if y = 0 then (0, 11) else (x.tmod y, 0))
  else if l == [100, 105, 118] then (if y = 0 then (0, 11) else (fitV (divS x y), fitE (divS x y)))
  else if l == [109, 111, 100] then (if y = 0 then (0, 11) else (modS x y, 0))
  else if l == [94] then (if y < 0 then (0, 1) else (fitV (x ^ y.toNat), fitE (x ^ y.toNat)))
  else if l == [103, 99, 100] then ((fitV (Nat.gcd x.natAbs y.natAbs), fitE (Nat.gcd x.natAbs y.natAbs)))
  else if l == [60, 60] then (if y < 0 then (0, 1) else (fitV (x * 2 ^ (min y.toNat 70)), fitE (x * 2 ^ (min y.toNat 70))))
  else if l == [62, 62] then (if y < 0 then (0, 1) else (shrS x y, 0))
  else if l == [109, 105, 110] then ((min x y, 0))
  else if l == [109, 97, 120] then ((max x y, 0))
  else (0, 1)
def num1 (l : List UInt8) (x : Int) : Int × Int :=
  if l == [43] then (x, 0) else if l == [45] then (fitV (-x), fitE (-x)) else if l == [97, 98, 115] then (fitV x.natAbs, fitE x.natAbs) else ((if x < 0 then -1 else if 0 < x then 1 else 0), 0)
def ev2 (s : ByteArray) (r0 r1 : Ev) : Ev :=
  match r0 with
  | .val x => (match r1 with
    | .val y => ev (num2 s.toList x y).1 (num2 s.toList x y).2 s 2
    | .flt k s n => .flt k s n)
  | .flt k s n => .flt k s n
def ev1 (s : ByteArray) (r0 : Ev) : Ev :=
  match r0 with
  | .val x => ev (num1 s.toList x).1 (num1 s.toList x).2 s 1
  | .flt k s n => .flt k s n
/-- What a term comes to. -/
def evT : T → Ev
  | .nil => .val 0
  | .mk k n s m a =>
    if k = 2 then .val n else if k = 1 then .flt 1 noName 0
    else if m = 1 then (if isOne s.toList then ev1 s (evT (a 0)) else .flt 2 s 1)
    else if m = 2 then (if isTwo s.toList then ev2 s (evT (a 0)) (evT (a 1)) else .flt 2 s 2)
    else .flt 2 s m

set_option maxHeartbeats 2000000 in
theorem by_any (s : ByteArray) (w : World) :
    Calls Try.prog 46 #[.string s] w fun r w' => r = .returned (fnV s.toList) ∧ w = w' := by
  go_enter Try.func46, Try.ntmps46
  go_wp2
  all_goals
    go_ret
    exact ⟨by simp [fnV, *], rfl⟩

/-- What a function of two numbers hands back. -/
def Op2 (F : Nat) (l : List UInt8) : Prop := ∀ (x y : Int) (w : World), -9223372036854775808 ≤ x → x ≤ 9223372036854775807 → -9223372036854775808 ≤ y → y ≤ 9223372036854775807 →
  Calls Try.prog F #[.int .i64 x, .int .i64 y] w fun r w' => r = .returned (.tuple #[.int .i64 (num2 l x y).1, .int .i64 (num2 l x y).2]) ∧ Below w.heap.size w w'
theorem op2_Add : Op2 71 [43] := by
  intro x y w hx hx' hy hy'
  refine (add_any x y _ hx hx' hy hy').mono ?_
  rintro e w' ⟨rfl, rfl⟩
  exact ⟨rfl, Below.refl _ _⟩
theorem op2_Sub : Op2 68 [45] := by
  intro x y w hx hx' hy hy'
  refine (sub_any x y _ hx hx' hy hy').mono ?_
  rintro e w' ⟨rfl, rfl⟩
  exact ⟨rfl, Below.refl _ _⟩
theorem op2_Mul : Op2 72 [42] := by
  intro x y w hx hx' hy hy'
  refine (mul_any x y _ hx hx' hy hy').mono ?_
  rintro e w' ⟨rfl, rfl⟩
  exact ⟨rfl, Below.refl _ _⟩
theorem op2_Quo : Op2 73 [47, 47] := by
  intro x y w hx hx' hy hy'
  by_cases h : y = 0
  · subst h
    refine (quo_zero x _).mono ?_
    rintro e w' ⟨rfl, rfl⟩
    exact ⟨rfl, Below.refl _ _⟩
  · have e : num2 [47, 47] x y = (fitV (x.tdiv y), fitE (x.tdiv y)) := by simp [num2, h]
    rw [e]
    refine (quo_any x y _ hx hx' h).mono ?_
    rintro e w' ⟨rfl, rfl⟩
    exact ⟨rfl, Below.refl _ _⟩
theorem op2_Rem : Op2 74 [114, 101, 109] := by
  intro x y w hx hx' hy hy'
  by_cases h : y = 0
  · subst h
    refine (rem_zero x _).mono ?_
    rintro e w' ⟨rfl, rfl⟩
    exact ⟨rfl, Below.refl _ _⟩
  · have e : num2 [114, 101, 109] x y = (x.tmod y, 0) := by simp [num2, h]
    rw [e]
    refine (rem_any x y _ h).mono ?_
    rintro e w' ⟨rfl, rfl⟩
    exact ⟨rfl, Below.refl _ _⟩
theorem op2_Div : Op2 75 [100, 105, 118] := by
  intro x y w hx hx' hy hy'
  by_cases h : y = 0
  · subst h
    refine (div_zero x _).mono ?_
    rintro e w' ⟨rfl, rfl⟩
    exact ⟨rfl, Below.refl _ _⟩
  · have e : num2 [100, 105, 118] x y = (fitV (divS x y), fitE (divS x y)) := by simp [num2, h]
    rw [e]
    refine (div_any x y _ hx hx' h).mono ?_
    rintro e w' ⟨rfl, rfl⟩
    exact ⟨rfl, Below.refl _ _⟩
theorem op2_Mod : Op2 76 [109, 111, 100] := by
  intro x y w hx hx' hy hy'
  by_cases h : y = 0
  · subst h
    refine (mod_zero x _).mono ?_
    rintro e w' ⟨rfl, rfl⟩
    exact ⟨rfl, Below.refl _ _⟩
  · have e : num2 [109, 111, 100] x y = (modS x y, 0) := by simp [num2, h]
    rw [e]
    refine (mod_any x y _ hy hy' h).mono ?_
    rintro e w' ⟨rfl, rfl⟩
    exact ⟨rfl, Below.refl _ _⟩
theorem op2_Pow : Op2 77 [94] := by
  intro x y w hx hx' hy hy'
  by_cases h : y < 0
  · have e : num2 [94] x y = (0, 1) := by simp [num2, h]
    rw [e]
    refine (pow_neg x y _ h).mono ?_
    rintro e w' ⟨rfl, rfl⟩
    exact ⟨rfl, Below.refl _ _⟩
  · have e : num2 [94] x y = (fitV (x ^ y.toNat), fitE (x ^ y.toNat)) := by simp [num2, h]
    rw [e]
    refine (pow_any x y _ (by omega) hy' hx hx').mono ?_
    rintro e w' ⟨rfl, rfl⟩
    exact ⟨rfl, Below.refl _ _⟩
theorem op2_Gcd : Op2 78 [103, 99, 100] := by
  intro x y w hx hx' hy hy'
  refine (gcd_any x y _ hx hx' hy hy').mono ?_
  rintro e w' ⟨rfl, h⟩
  exact ⟨rfl, h⟩
theorem op2_Shl : Op2 79 [60, 60] := by
  intro x y w hx hx' hy hy'
  by_cases h : y < 0
  · have e : num2 [60, 60] x y = (0, 1) := by simp [num2, h]
    rw [e]
    refine (shl_neg x y _ h).mono ?_
    rintro e w' ⟨rfl, rfl⟩
    exact ⟨rfl, Below.refl _ _⟩
  · have e : num2 [60, 60] x y = (fitV (x * 2 ^ (min y.toNat 70)), fitE (x * 2 ^ (min y.toNat 70))) := by simp [num2, h]
    rw [e]
    refine (shl_any x y _ (by omega)).mono ?_
    rintro e w' ⟨rfl, rfl⟩
    exact ⟨rfl, Below.refl _ _⟩
theorem op2_Shr : Op2 80 [62, 62] := by
  intro x y w hx hx' hy hy'
  by_cases h : y < 0
  · have e : num2 [62, 62] x y = (0, 1) := by simp [num2, h]
    rw [e]
    refine (shr_neg x y _ h).mono ?_
    rintro e w' ⟨rfl, rfl⟩
    exact ⟨rfl, Below.refl _ _⟩
  · have e : num2 [62, 62] x y = (shrS x y, 0) := by simp [num2, h]
    rw [e]
    refine (shr_any x y _ (by omega) hy').mono ?_
    rintro e w' ⟨rfl, rfl⟩
    exact ⟨rfl, Below.refl _ _⟩
theorem op2_by_1 : Op2 81 [109, 105, 110] := by
  intro x y w hx hx' hy hy'
  go_enter Try.func81, Try.ntmps81
  go_wp2
  go_ret2
  exact ⟨rfl, Below.refl _ _⟩
theorem op2_by_2 : Op2 82 [109, 97, 120] := by
  intro x y w hx hx' hy hy'
  go_enter Try.func82, Try.ntmps82
  go_wp2
  go_ret2
  exact ⟨rfl, Below.refl _ _⟩
end Go.Proofs.Ytifjdfdjojkagaa
