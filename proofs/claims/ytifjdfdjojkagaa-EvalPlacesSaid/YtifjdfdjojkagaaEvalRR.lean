/- The walks through coneyref13: single, double. The walk through coneyref13.Eval, for any term. The walk through coneyref13.Eval: two arguments. The walk through coneyref13.Eval, for any term whose atoms have no arguments. -/
import Derived.Test.YtifjdfdjojkagaaEvalR0
import Derived.Test.YtifjdfdjojkagaaRef16
import Derived.Test.YtifjdfdjojkagaaRef9
import Derived.Test.YtifjdfdjojkagaaRef15
import Derived.Test.YtifjdfdjojkagaaDig
namespace Go.Proofs.Ytifjdfdjojkagaa
open Go.RowKit

set_option maxHeartbeats 1000000 in
theorem dbl_Add (s : ByteArray) (x y : Int) (w : World) (hx : -9223372036854775808 ≤ x) (hx' : x ≤ 9223372036854775807) (hy : -9223372036854775808 ≤ y) (hy' : y ≤ 9223372036854775807)  (hs : s.toList = [43]) :
    Calls Try.prog 22 #[.string s, .int .i64 x, .int .i64 y] w fun r w' => r = .returned (.tuple #[.int .i64 (fitV (x + y)), .int .i64 (fitE (x + y))]) ∧ Below w.heap.size w w' := by
  have g0 : (s.toList == [43]) = true := by rw [hs]; rfl
  clear hs
  go_enter Try.func22, Try.ntmps22
  go_wp2_with fail
  refine (rAdd_any x y _ hx hx' hy hy').mono ?_
  rintro e w1 ⟨rfl, h⟩
  have H := Lib.hid h
  clear h
  go_wp2
  go_ret2
  exact ⟨rfl, H.out⟩
set_option maxHeartbeats 1000000 in
theorem dbl_Sub (s : ByteArray) (x y : Int) (w : World) (hx : -9223372036854775808 ≤ x) (hx' : x ≤ 9223372036854775807) (hy : -9223372036854775808 ≤ y) (hy' : y ≤ 9223372036854775807)  (hs : s.toList = [45]) :
    Calls Try.prog 22 #[.string s, .int .i64 x, .int .i64 y] w fun r w' => r = .returned (.tuple #[.int .i64 (fitV (x - y)), .int .i64 (fitE (x - y))]) ∧ Below w.heap.size w w' := by
  have g0 : (s.toList == [43]) = false := by rw [hs]; rfl
  have g1 : (s.toList == [45]) = true := by rw [hs]; rfl
  clear hs
  go_enter Try.func22, Try.ntmps22
  go_wp2_with fail
  refine (rSub_any x y _ hx hx' hy hy').mono ?_
  rintro e w1 ⟨rfl, h⟩
  have H := Lib.hid h
  clear h
  go_wp2
  go_ret2
  exact ⟨rfl, H.out⟩
set_option maxHeartbeats 1000000 in
theorem dbl_Mul (s : ByteArray) (x y : Int) (w : World) (hx : -9223372036854775808 ≤ x) (hx' : x ≤ 9223372036854775807) (hy : -9223372036854775808 ≤ y) (hy' : y ≤ 9223372036854775807)  (hs : s.toList = [42]) :
    Calls Try.prog 22 #[.string s, .int .i64 x, .int .i64 y] w fun r w' => r = .returned (.tuple #[.int .i64 (fitV (x * y)), .int .i64 (fitE (x * y))]) ∧ Below w.heap.size w w' := by
  have g0 : (s.toList == [43]) = false := by rw [hs]; rfl
  have g1 : (s.toList == [45]) = false := by rw [hs]; rfl
  have g2 : (s.toList == [42]) = true := by rw [hs]; rfl
  clear hs
  go_enter Try.func22, Try.ntmps22
  go_wp2_with fail
  refine (rMul_any x y _ hx hx' hy hy').mono ?_
  rintro e w1 ⟨rfl, h⟩
  have H := Lib.hid h
  clear h
  go_wp2
  go_ret2
  exact ⟨rfl, H.out⟩
set_option maxHeartbeats 1000000 in
theorem dbl_Gcd (s : ByteArray) (x y : Int) (w : World) (hx : -9223372036854775808 ≤ x) (hx' : x ≤ 9223372036854775807) (hy : -9223372036854775808 ≤ y) (hy' : y ≤ 9223372036854775807)  (hs : s.toList = [103, 99, 100]) :
    Calls Try.prog 22 #[.string s, .int .i64 x, .int .i64 y] w fun r w' => r = .returned (.tuple #[.int .i64 (fitV ((Nat.gcd x.natAbs y.natAbs : Nat))), .int .i64 (fitE ((Nat.gcd x.natAbs y.natAbs : Nat)))]) ∧ Below w.heap.size w w' := by
  have g0 : (s.toList == [43]) = false := by rw [hs]; rfl
  have g1 : (s.toList == [45]) = false := by rw [hs]; rfl
  have g2 : (s.toList == [42]) = false := by rw [hs]; rfl
  have g3 : (s.toList == [47, 47]) = false := by rw [hs]; rfl
  have g4 : (s.toList == [114, 101, 109]) = false := by rw [hs]; rfl
  have g5 : (s.toList == [100, 105, 118]) = false := by rw [hs]; rfl
  have g6 : (s.toList == [109, 111, 100]) = false := by rw [hs]; rfl
  have g7 : (s.toList == [94]) = false := by rw [hs]; rfl
  have g8 : (s.toList == [103, 99, 100]) = true := by rw [hs]; rfl
  clear hs
  go_enter Try.func22, Try.ntmps22
  go_wp2_with fail
  refine (rGcd_any x y _ hx hx' hy hy').mono ?_
  rintro e w1 ⟨rfl, h⟩
  have H := Lib.hid h
  clear h
  go_wp2
  go_ret2
  exact ⟨rfl, H.out⟩
set_option maxHeartbeats 1000000 in
theorem dbl_Quo (s : ByteArray) (x y : Int) (w : World) (hx : -9223372036854775808 ≤ x) (hx' : x ≤ 9223372036854775807) (hy : -9223372036854775808 ≤ y) (hy' : y ≤ 9223372036854775807) (h : ¬ y = 0) (hs : s.toList = [47, 47]) :
    Calls Try.prog 22 #[.string s, .int .i64 x, .int .i64 y] w fun r w' => r = .returned (.tuple #[.int .i64 (fitV (x.tdiv y)), .int .i64 (fitE (x.tdiv y))]) ∧ Below w.heap.size w w' := by
  have g0 : (s.toList == [43]) = false := by rw [hs]; rfl
  have g1 : (s.toList == [45]) = false := by rw [hs]; rfl
  have g2 : (s.toList == [42]) = false := by rw [hs]; rfl
  have g3 : (s.toList == [47, 47]) = true := by rw [hs]; rfl
  clear hs
  go_enter Try.func22, Try.ntmps22
  go_wp2_with fail
  refine (rQuo_any x y _ hx hx' hy hy' h).mono ?_
  rintro e w1 ⟨rfl, h⟩
  have H := Lib.hid h
  clear h
  go_wp2
  go_ret2
  exact ⟨rfl, H.out⟩
set_option maxHeartbeats 1000000 in
theorem dbl_Quo_z (s : ByteArray) (x : Int) (w : World)  (hs : s.toList = [47, 47]) :
    Calls Try.prog 22 #[.string s, .int .i64 x, .int .i64 0] w fun r w' => r = .returned (.tuple #[.int .i64 (0), .int .i64 (11)]) ∧ Below w.heap.size w w' := by
  have g0 : (s.toList == [43]) = false := by rw [hs]; rfl
  have g1 : (s.toList == [45]) = false := by rw [hs]; rfl
  have g2 : (s.toList == [42]) = false := by rw [hs]; rfl
  have g3 : (s.toList == [47, 47]) = true := by rw [hs]; rfl
  clear hs
  go_enter Try.func22, Try.ntmps22
  go_wp2_with fail
  refine (rQuo_zero x _).mono ?_
  rintro e w1 ⟨rfl, h⟩
  have H := Lib.hid h
  clear h
  go_wp2
  go_ret2
  exact ⟨rfl, H.out⟩
set_option maxHeartbeats 1000000 in
theorem dbl_Rem (s : ByteArray) (x y : Int) (w : World) (hx : -9223372036854775808 ≤ x) (hx' : x ≤ 9223372036854775807) (hy : -9223372036854775808 ≤ y) (hy' : y ≤ 9223372036854775807) (h : ¬ y = 0) (hs : s.toList = [114, 101, 109]) :
    Calls Try.prog 22 #[.string s, .int .i64 x, .int .i64 y] w fun r w' => r = .returned (.tuple #[.int .i64 (x.tmod y), .int .i64 (0)]) ∧ Below w.heap.size w w' := by
  have g0 : (s.toList == [43]) = false := by rw [hs]; rfl
  have g1 : (s.toList == [45]) = false := by rw [hs]; rfl
  have g2 : (s.toList == [42]) = false := by rw [hs]; rfl
  have g3 : (s.toList == [47, 47]) = false := by rw [hs]; rfl
  have g4 : (s.toList == [114, 101, 109]) = true := by rw [hs]; rfl
  clear hs
  go_enter Try.func22, Try.ntmps22
  go_wp2_with fail
  refine (rRem_any x y _ hx hx' hy hy' h).mono ?_
  rintro e w1 ⟨rfl, h⟩
  have H := Lib.hid h
  clear h
  go_wp2
  go_ret2
  exact ⟨rfl, H.out⟩
set_option maxHeartbeats 1000000 in
theorem dbl_Rem_z (s : ByteArray) (x : Int) (w : World)  (hs : s.toList = [114, 101, 109]) :
    Calls Try.prog 22 #[.string s, .int .i64 x, .int .i64 0] w fun r w' => r = .returned (.tuple #[.int .i64 (0), .int .i64 (11)]) ∧ Below w.heap.size w w' := by
  have g0 : (s.toList == [43]) = false := by rw [hs]; rfl
  have g1 : (s.toList == [45]) = false := by rw [hs]; rfl
  have g2 : (s.toList == [42]) = false := by rw [hs]; rfl
  have g3 : (s.toList == [47, 47]) = false := by rw [hs]; rfl
  have g4 : (s.toList == [114, 101, 109]) = true := by rw [hs]; rfl
  clear hs
  go_enter Try.func22, Try.ntmps22
  go_wp2_with fail
  refine (rRem_zero x _).mono ?_
  rintro e w1 ⟨rfl, h⟩
  have H := Lib.hid h
  clear h
  go_wp2
  go_ret2
  exact ⟨rfl, H.out⟩
set_option maxHeartbeats 1000000 in
theorem dbl_Div (s : ByteArray) (x y : Int) (w : World) (hx : -9223372036854775808 ≤ x) (hx' : x ≤ 9223372036854775807) (hy : -9223372036854775808 ≤ y) (hy' : y ≤ 9223372036854775807) (h : ¬ y = 0) (hs : s.toList = [100, 105, 118]) :
    Calls Try.prog 22 #[.string s, .int .i64 x, .int .i64 y] w fun r w' => r = .returned (.tuple #[.int .i64 (fitV (divS x y)), .int .i64 (fitE (divS x y))]) ∧ Below w.heap.size w w' := by
  have g0 : (s.toList == [43]) = false := by rw [hs]; rfl
  have g1 : (s.toList == [45]) = false := by rw [hs]; rfl
  have g2 : (s.toList == [42]) = false := by rw [hs]; rfl
  have g3 : (s.toList == [47, 47]) = false := by rw [hs]; rfl
  have g4 : (s.toList == [114, 101, 109]) = false := by rw [hs]; rfl
  have g5 : (s.toList == [100, 105, 118]) = true := by rw [hs]; rfl
  clear hs
  go_enter Try.func22, Try.ntmps22
  go_wp2_with fail
  refine (rDiv_any x y _ hx hx' hy hy' h).mono ?_
  rintro e w1 ⟨rfl, h⟩
  have H := Lib.hid h
  clear h
  go_wp2
  go_ret2
  exact ⟨rfl, H.out⟩
set_option maxHeartbeats 1000000 in
theorem dbl_Div_z (s : ByteArray) (x : Int) (w : World)  (hs : s.toList = [100, 105, 118]) :
    Calls Try.prog 22 #[.string s, .int .i64 x, .int .i64 0] w fun r w' => r = .returned (.tuple #[.int .i64 (0), .int .i64 (11)]) ∧ Below w.heap.size w w' := by
  have g0 : (s.toList == [43]) = false := by rw [hs]; rfl
  have g1 : (s.toList == [45]) = false := by rw [hs]; rfl
  have g2 : (s.toList == [42]) = false := by rw [hs]; rfl
  have g3 : (s.toList == [47, 47]) = false := by rw [hs]; rfl
  have g4 : (s.toList == [114, 101, 109]) = false := by rw [hs]; rfl
  have g5 : (s.toList == [100, 105, 118]) = true := by rw [hs]; rfl
  clear hs
  go_enter Try.func22, Try.ntmps22
  go_wp2_with fail
  refine (rDiv_zero x _).mono ?_
  rintro e w1 ⟨rfl, h⟩
  have H := Lib.hid h
  clear h
  go_wp2
  go_ret2
  exact ⟨rfl, H.out⟩
set_option maxHeartbeats 1000000 in
theorem dbl_Mod (s : ByteArray) (x y : Int) (w : World) (hx : -9223372036854775808 ≤ x) (hx' : x ≤ 9223372036854775807) (hy : -9223372036854775808 ≤ y) (hy' : y ≤ 9223372036854775807) (h : ¬ y = 0) (hs : s.toList = [109, 111, 100]) :
    Calls Try.prog 22 #[.string s, .int .i64 x, .int .i64 y] w fun r w' => r = .returned (.tuple #[.int .i64 (modS x y), .int .i64 (0)]) ∧ Below w.heap.size w w' := by
  have g0 : (s.toList == [43]) = false := by rw [hs]; rfl
  have g1 : (s.toList == [45]) = false := by rw [hs]; rfl
  have g2 : (s.toList == [42]) = false := by rw [hs]; rfl
  have g3 : (s.toList == [47, 47]) = false := by rw [hs]; rfl
  have g4 : (s.toList == [114, 101, 109]) = false := by rw [hs]; rfl
  have g5 : (s.toList == [100, 105, 118]) = false := by rw [hs]; rfl
  have g6 : (s.toList == [109, 111, 100]) = true := by rw [hs]; rfl
  clear hs
  go_enter Try.func22, Try.ntmps22
  go_wp2_with fail
  refine (rMod_any x y _ hx hx' hy hy' h).mono ?_
  rintro e w1 ⟨rfl, h⟩
  have H := Lib.hid h
  clear h
  go_wp2
  go_ret2
  exact ⟨rfl, H.out⟩
set_option maxHeartbeats 1000000 in
theorem dbl_Mod_z (s : ByteArray) (x : Int) (w : World)  (hs : s.toList = [109, 111, 100]) :
    Calls Try.prog 22 #[.string s, .int .i64 x, .int .i64 0] w fun r w' => r = .returned (.tuple #[.int .i64 (0), .int .i64 (11)]) ∧ Below w.heap.size w w' := by
  have g0 : (s.toList == [43]) = false := by rw [hs]; rfl
  have g1 : (s.toList == [45]) = false := by rw [hs]; rfl
  have g2 : (s.toList == [42]) = false := by rw [hs]; rfl
  have g3 : (s.toList == [47, 47]) = false := by rw [hs]; rfl
  have g4 : (s.toList == [114, 101, 109]) = false := by rw [hs]; rfl
  have g5 : (s.toList == [100, 105, 118]) = false := by rw [hs]; rfl
  have g6 : (s.toList == [109, 111, 100]) = true := by rw [hs]; rfl
  clear hs
  go_enter Try.func22, Try.ntmps22
  go_wp2_with fail
  refine (rMod_zero x _).mono ?_
  rintro e w1 ⟨rfl, h⟩
  have H := Lib.hid h
  clear h
  go_wp2
  go_ret2
  exact ⟨rfl, H.out⟩
set_option maxHeartbeats 1000000 in
theorem dbl_Pow (s : ByteArray) (x y : Int) (w : World) (hx : -9223372036854775808 ≤ x) (hx' : x ≤ 9223372036854775807) (hy' : y ≤ 9223372036854775807) (h : 0 ≤ y) (hs : s.toList = [94]) :
    Calls Try.prog 22 #[.string s, .int .i64 x, .int .i64 y] w fun r w' => r = .returned (.tuple #[.int .i64 (fitV (x ^ y.toNat)), .int .i64 (fitE (x ^ y.toNat))]) ∧ Below w.heap.size w w' := by
  have g0 : (s.toList == [43]) = false := by rw [hs]; rfl
  have g1 : (s.toList == [45]) = false := by rw [hs]; rfl
  have g2 : (s.toList == [42]) = false := by rw [hs]; rfl
  have g3 : (s.toList == [47, 47]) = false := by rw [hs]; rfl
  have g4 : (s.toList == [114, 101, 109]) = false := by rw [hs]; rfl
  have g5 : (s.toList == [100, 105, 118]) = false := by rw [hs]; rfl
  have g6 : (s.toList == [109, 111, 100]) = false := by rw [hs]; rfl
  have g7 : (s.toList == [94]) = true := by rw [hs]; rfl
  clear hs
  go_enter Try.func22, Try.ntmps22
  go_wp2_with fail
  refine (rPow_any x y _ h hy' hx hx').mono ?_
  rintro e w1 ⟨rfl, h⟩
  have H := Lib.hid h
  clear h
  go_wp2
  go_ret2
  exact ⟨rfl, H.out⟩
set_option maxHeartbeats 1000000 in
theorem dbl_Pow_n (s : ByteArray) (x y : Int) (w : World) (h : y < 0) (hs : s.toList = [94]) :
    Calls Try.prog 22 #[.string s, .int .i64 x, .int .i64 y] w fun r w' => r = .returned (.tuple #[.int .i64 (0), .int .i64 (1)]) ∧ Below w.heap.size w w' := by
  have g0 : (s.toList == [43]) = false := by rw [hs]; rfl
  have g1 : (s.toList == [45]) = false := by rw [hs]; rfl
  have g2 : (s.toList == [42]) = false := by rw [hs]; rfl
  have g3 : (s.toList == [47, 47]) = false := by rw [hs]; rfl
  have g4 : (s.toList == [114, 101, 109]) = false := by rw [hs]; rfl
  have g5 : (s.toList == [100, 105, 118]) = false := by rw [hs]; rfl
  have g6 : (s.toList == [109, 111, 100]) = false := by rw [hs]; rfl
  have g7 : (s.toList == [94]) = true := by rw [hs]; rfl
  clear hs
  go_enter Try.func22, Try.ntmps22
  go_wp2_with fail
  refine (rPow_neg x y _ h).mono ?_
  rintro e w1 ⟨rfl, h⟩
  have H := Lib.hid h
  clear h
  go_wp2
  go_ret2
  exact ⟨rfl, H.out⟩
set_option maxHeartbeats 1000000 in
theorem dbl_Shl (s : ByteArray) (x y : Int) (w : World) (hx : -9223372036854775808 ≤ x) (hx' : x ≤ 9223372036854775807) (hy' : y ≤ 9223372036854775807) (h : 0 ≤ y) (hs : s.toList = [60, 60]) :
    Calls Try.prog 22 #[.string s, .int .i64 x, .int .i64 y] w fun r w' => r = .returned (.tuple #[.int .i64 (fitV (x * 2 ^ (min y.toNat 70))), .int .i64 (fitE (x * 2 ^ (min y.toNat 70)))]) ∧ Below w.heap.size w w' := by
  have g0 : (s.toList == [43]) = false := by rw [hs]; rfl
  have g1 : (s.toList == [45]) = false := by rw [hs]; rfl
  have g2 : (s.toList == [42]) = false := by rw [hs]; rfl
  have g3 : (s.toList == [47, 47]) = false := by rw [hs]; rfl
  have g4 : (s.toList == [114, 101, 109]) = false := by rw [hs]; rfl
  have g5 : (s.toList == [100, 105, 118]) = false := by rw [hs]; rfl
  have g6 : (s.toList == [109, 111, 100]) = false := by rw [hs]; rfl
  have g7 : (s.toList == [94]) = false := by rw [hs]; rfl
  have g8 : (s.toList == [103, 99, 100]) = false := by rw [hs]; rfl
  have g9 : (s.toList == [60, 60]) = true := by rw [hs]; rfl
  clear hs
  go_enter Try.func22, Try.ntmps22
  go_wp2_with fail
  refine (rShl_any x y _ h hy' hx hx').mono ?_
  rintro e w1 ⟨rfl, h⟩
  have H := Lib.hid h
  clear h
  go_wp2
  go_ret2
  exact ⟨rfl, H.out⟩
set_option maxHeartbeats 1000000 in
theorem dbl_Shl_n (s : ByteArray) (x y : Int) (w : World) (h : y < 0) (hs : s.toList = [60, 60]) :
    Calls Try.prog 22 #[.string s, .int .i64 x, .int .i64 y] w fun r w' => r = .returned (.tuple #[.int .i64 (0), .int .i64 (1)]) ∧ Below w.heap.size w w' := by
  have g0 : (s.toList == [43]) = false := by rw [hs]; rfl
  have g1 : (s.toList == [45]) = false := by rw [hs]; rfl
  have g2 : (s.toList == [42]) = false := by rw [hs]; rfl
  have g3 : (s.toList == [47, 47]) = false := by rw [hs]; rfl
  have g4 : (s.toList == [114, 101, 109]) = false := by rw [hs]; rfl
  have g5 : (s.toList == [100, 105, 118]) = false := by rw [hs]; rfl
  have g6 : (s.toList == [109, 111, 100]) = false := by rw [hs]; rfl
  have g7 : (s.toList == [94]) = false := by rw [hs]; rfl
  have g8 : (s.toList == [103, 99, 100]) = false := by rw [hs]; rfl
  have g9 : (s.toList == [60, 60]) = true := by rw [hs]; rfl
  clear hs
  go_enter Try.func22, Try.ntmps22
  go_wp2_with fail
  refine (rShl_neg x y _ h).mono ?_
  rintro e w1 ⟨rfl, h⟩
  have H := Lib.hid h
  clear h
  go_wp2
  go_ret2
  exact ⟨rfl, H.out⟩
set_option maxHeartbeats 1000000 in
theorem dbl_Shr (s : ByteArray) (x y : Int) (w : World) (hx : -9223372036854775808 ≤ x) (hx' : x ≤ 9223372036854775807) (hy' : y ≤ 9223372036854775807) (h : 0 ≤ y) (hs : s.toList = [62, 62]) :
    Calls Try.prog 22 #[.string s, .int .i64 x, .int .i64 y] w fun r w' => r = .returned (.tuple #[.int .i64 (shrS x y), .int .i64 (0)]) ∧ Below w.heap.size w w' := by
  have g0 : (s.toList == [43]) = false := by rw [hs]; rfl
  have g1 : (s.toList == [45]) = false := by rw [hs]; rfl
  have g2 : (s.toList == [42]) = false := by rw [hs]; rfl
  have g3 : (s.toList == [47, 47]) = false := by rw [hs]; rfl
  have g4 : (s.toList == [114, 101, 109]) = false := by rw [hs]; rfl
  have g5 : (s.toList == [100, 105, 118]) = false := by rw [hs]; rfl
  have g6 : (s.toList == [109, 111, 100]) = false := by rw [hs]; rfl
  have g7 : (s.toList == [94]) = false := by rw [hs]; rfl
  have g8 : (s.toList == [103, 99, 100]) = false := by rw [hs]; rfl
  have g9 : (s.toList == [60, 60]) = false := by rw [hs]; rfl
  have g10 : (s.toList == [62, 62]) = true := by rw [hs]; rfl
  clear hs
  go_enter Try.func22, Try.ntmps22
  go_wp2_with fail
  refine (rShr_any x y _ h hy' hx hx').mono ?_
  rintro e w1 ⟨rfl, h⟩
  have H := Lib.hid h
  clear h
  go_wp2
  go_ret2
  exact ⟨rfl, H.out⟩
set_option maxHeartbeats 1000000 in
theorem dbl_Shr_n (s : ByteArray) (x y : Int) (w : World) (h : y < 0) (hs : s.toList = [62, 62]) :
    Calls Try.prog 22 #[.string s, .int .i64 x, .int .i64 y] w fun r w' => r = .returned (.tuple #[.int .i64 (0), .int .i64 (1)]) ∧ Below w.heap.size w w' := by
  have g0 : (s.toList == [43]) = false := by rw [hs]; rfl
  have g1 : (s.toList == [45]) = false := by rw [hs]; rfl
  have g2 : (s.toList == [42]) = false := by rw [hs]; rfl
  have g3 : (s.toList == [47, 47]) = false := by rw [hs]; rfl
  have g4 : (s.toList == [114, 101, 109]) = false := by rw [hs]; rfl
  have g5 : (s.toList == [100, 105, 118]) = false := by rw [hs]; rfl
  have g6 : (s.toList == [109, 111, 100]) = false := by rw [hs]; rfl
  have g7 : (s.toList == [94]) = false := by rw [hs]; rfl
  have g8 : (s.toList == [103, 99, 100]) = false := by rw [hs]; rfl
  have g9 : (s.toList == [60, 60]) = false := by rw [hs]; rfl
  have g10 : (s.toList == [62, 62]) = true := by rw [hs]; rfl
  clear hs
  go_enter Try.func22, Try.ntmps22
  go_wp2_with fail
  refine (rShr_neg x y _ h).mono ?_
  rintro e w1 ⟨rfl, h⟩
  have H := Lib.hid h
  clear h
  go_wp2
  go_ret2
  exact ⟨rfl, H.out⟩
set_option maxHeartbeats 1000000 in
theorem dbl_min (s : ByteArray) (x y : Int) (w : World)  (hs : s.toList = [109, 105, 110]) :
    Calls Try.prog 22 #[.string s, .int .i64 x, .int .i64 y] w fun r w' => r = .returned (.tuple #[.int .i64 (min x y), .int .i64 (0)]) ∧ Below w.heap.size w w' := by
  have g0 : (s.toList == [43]) = false := by rw [hs]; rfl
  have g1 : (s.toList == [45]) = false := by rw [hs]; rfl
  have g2 : (s.toList == [42]) = false := by rw [hs]; rfl
  have g3 : (s.toList == [47, 47]) = false := by rw [hs]; rfl
  have g4 : (s.toList == [114, 101, 109]) = false := by rw [hs]; rfl
  have g5 : (s.toList == [100, 105, 118]) = false := by rw [hs]; rfl
  have g6 : (s.toList == [109, 111, 100]) = false := by rw [hs]; rfl
  have g7 : (s.toList == [94]) = false := by rw [hs]; rfl
  have g8 : (s.toList == [103, 99, 100]) = false := by rw [hs]; rfl
  have g9 : (s.toList == [60, 60]) = false := by rw [hs]; rfl
  have g10 : (s.toList == [62, 62]) = false := by rw [hs]; rfl
  have g11 : (s.toList == [109, 105, 110]) = true := by rw [hs]; rfl
  clear hs
  go_enter Try.func22, Try.ntmps22
  go_wp2
  go_ret2
  exact ⟨rfl, Below.refl _ _⟩
set_option maxHeartbeats 1000000 in
theorem dbl_max (s : ByteArray) (x y : Int) (w : World)  (hs : s.toList = [109, 97, 120]) :
    Calls Try.prog 22 #[.string s, .int .i64 x, .int .i64 y] w fun r w' => r = .returned (.tuple #[.int .i64 (max x y), .int .i64 (0)]) ∧ Below w.heap.size w w' := by
  have g0 : (s.toList == [43]) = false := by rw [hs]; rfl
  have g1 : (s.toList == [45]) = false := by rw [hs]; rfl
  have g2 : (s.toList == [42]) = false := by rw [hs]; rfl
  have g3 : (s.toList == [47, 47]) = false := by rw [hs]; rfl
  have g4 : (s.toList == [114, 101, 109]) = false := by rw [hs]; rfl
  have g5 : (s.toList == [100, 105, 118]) = false := by rw [hs]; rfl
  have g6 : (s.toList == [109, 111, 100]) = false := by rw [hs]; rfl
  have g7 : (s.toList == [94]) = false := by rw [hs]; rfl
  have g8 : (s.toList == [103, 99, 100]) = false := by rw [hs]; rfl
  have g9 : (s.toList == [60, 60]) = false := by rw [hs]; rfl
  have g10 : (s.toList == [62, 62]) = false := by rw [hs]; rfl
  have g11 : (s.toList == [109, 105, 110]) = false := by rw [hs]; rfl
  clear hs
  go_enter Try.func22, Try.ntmps22
  go_wp2
  go_ret2
  exact ⟨rfl, Below.refl _ _⟩

theorem isTwo_yes {l : List UInt8} (h : isTwo l = true) : l = [43] ∨ l = [45] ∨ l = [42] ∨ l = [47, 47] ∨ l = [114, 101, 109] ∨ l = [100, 105, 118] ∨ l = [109, 111, 100] ∨ l = [94] ∨ l = [103, 99, 100] ∨ l = [60, 60] ∨ l = [62, 62] ∨ l = [109, 105, 110] ∨ l = [109, 97, 120] := by
  unfold isTwo at h
  simpa [or_assoc] using h
theorem double_any (s : ByteArray) (x y : Int) (w : World) (hx : -9223372036854775808 ≤ x) (hx' : x ≤ 9223372036854775807) (hy : -9223372036854775808 ≤ y) (hy' : y ≤ 9223372036854775807) (hs : isTwo s.toList = true) :
    Calls Try.prog 22 #[.string s, .int .i64 x, .int .i64 y] w fun r w' => r = .returned (.tuple #[.int .i64 (num2 s.toList x y).1, .int .i64 (num2 s.toList x y).2]) ∧ Below w.heap.size w w' := by
  rcases isTwo_yes hs with h | h | h | h | h | h | h | h | h | h | h | h | h
  · have := dbl_Add s x y w hx hx' hy hy' h
    rw [h]; exact this
  · have := dbl_Sub s x y w hx hx' hy hy' h
    rw [h]; exact this
  · have := dbl_Mul s x y w hx hx' hy hy' h
    rw [h]; exact this
  · by_cases hz : y = 0
    · subst hz
      have := dbl_Quo_z s x w h
      rw [h]; exact this
    · have := dbl_Quo s x y w hx hx' hy hy' hz h
      have e : num2 [47, 47] x y = (fitV (x.tdiv y), fitE (x.tdiv y)) := by simp [num2, hz]
      rw [h, e]; exact this
  · by_cases hz : y = 0
    · subst hz
      have := dbl_Rem_z s x w h
      rw [h]; exact this
    · have := dbl_Rem s x y w hx hx' hy hy' hz h
      have e : num2 [114, 101, 109] x y = (x.tmod y, 0) := by simp [num2, hz]
      rw [h, e]; exact this
  · by_cases hz : y = 0
    · subst hz
      have := dbl_Div_z s x w h
      rw [h]; exact this
    · have := dbl_Div s x y w hx hx' hy hy' hz h
      have e : num2 [100, 105, 118] x y = (fitV (divS x y), fitE (divS x y)) := by simp [num2, hz]
      rw [h, e]; exact this
  · by_cases hz : y = 0
    · subst hz
      have := dbl_Mod_z s x w h
      rw [h]; exact this
    · have := dbl_Mod s x y w hx hx' hy hy' hz h
      have e : num2 [109, 111, 100] x y = (modS x y, 0) := by simp [num2, hz]
      rw [h, e]; exact this
  · by_cases hz : y < 0
    · have := dbl_Pow_n s x y w hz h
      have e : num2 [94] x y = (0, 1) := by simp [num2, hz]
      rw [h, e]; exact this
    · have := dbl_Pow s x y w hx hx' hy' (by omega) h
      have e : num2 [94] x y = (fitV (x ^ y.toNat), fitE (x ^ y.toNat)) := by simp [num2, hz]
      rw [h, e]; exact this
  · have := dbl_Gcd s x y w hx hx' hy hy' h
    rw [h]; exact this
  · by_cases hz : y < 0
    · have := dbl_Shl_n s x y w hz h
      have e : num2 [60, 60] x y = (0, 1) := by simp [num2, hz]
      rw [h, e]; exact this
    · have := dbl_Shl s x y w hx hx' hy' (by omega) h
      have e : num2 [60, 60] x y = (fitV (x * 2 ^ (min y.toNat 70)), fitE (x * 2 ^ (min y.toNat 70))) := by simp [num2, hz]
      rw [h, e]; exact this
  · by_cases hz : y < 0
    · have := dbl_Shr_n s x y w hz h
      have e : num2 [62, 62] x y = (0, 1) := by simp [num2, hz]
      rw [h, e]; exact this
    · have := dbl_Shr s x y w hx hx' hy' (by omega) h
      have e : num2 [62, 62] x y = (shrS x y, 0) := by simp [num2, hz]
      rw [h, e]; exact this
  · have := dbl_min s x y w h
    rw [h]; exact this
  · have := dbl_max s x y w h
    rw [h]; exact this

set_option maxHeartbeats 1000000 in
theorem sgl_plus (s : ByteArray) (x : Int) (w : World) (hs : s.toList = [43]) :
    Calls Try.prog 20 #[.string s, .int .i64 x] w fun r w' => r = .returned (.tuple #[.int .i64 x, .int .i64 0]) ∧ Below w.heap.size w w' := by
  have g1 : (s.toList == [45]) = false := by rw [hs]; rfl
  have g2 : (s.toList == [97, 98, 115]) = false := by rw [hs]; rfl
  have g3 : (s.toList == [115, 105, 103, 110]) = false := by rw [hs]; rfl
  clear hs
  go_enter Try.func20, Try.ntmps20
  go_wp2
  go_ret2
  exact ⟨rfl, Below.refl _ _⟩
set_option maxHeartbeats 1000000 in
theorem sgl_neg (s : ByteArray) (x : Int) (w : World) (hx : -9223372036854775808 ≤ x) (hx' : x ≤ 9223372036854775807) (hs : s.toList = [45]) :
    Calls Try.prog 20 #[.string s, .int .i64 x] w fun r w' => r = .returned (.tuple #[.int .i64 (fitV (-x)), .int .i64 (fitE (-x))]) ∧ Below w.heap.size w w' := by
  have g1 : (s.toList == [45]) = true := by rw [hs]; rfl
  clear hs
  go_enter Try.func20, Try.ntmps20
  go_wp2_with fail
  refine (rNeg_any x _ hx hx').mono ?_
  rintro e w1 ⟨rfl, h⟩
  have H := Lib.hid h
  clear h
  go_wp2
  go_ret2
  exact ⟨rfl, H.out⟩
set_option maxHeartbeats 1000000 in
theorem sgl_abs (s : ByteArray) (x : Int) (w : World) (hx : -9223372036854775808 ≤ x) (hx' : x ≤ 9223372036854775807) (hs : s.toList = [97, 98, 115]) :
    Calls Try.prog 20 #[.string s, .int .i64 x] w fun r w' => r = .returned (.tuple #[.int .i64 (fitV (x.natAbs : Int)), .int .i64 (fitE (x.natAbs : Int))]) ∧ Below w.heap.size w w' := by
  have g1 : (s.toList == [45]) = false := by rw [hs]; rfl
  have g2 : (s.toList == [97, 98, 115]) = true := by rw [hs]; rfl
  clear hs
  go_enter Try.func20, Try.ntmps20
  go_wp2_with fail
  refine (rAbs_any x _ hx hx').mono ?_
  rintro e w1 ⟨rfl, h⟩
  have H := Lib.hid h
  clear h
  go_wp2
  go_ret2
  exact ⟨rfl, H.out⟩
set_option maxHeartbeats 1000000 in
theorem sgl_sign (s : ByteArray) (x : Int) (w : World) (hs : s.toList = [115, 105, 103, 110]) :
    Calls Try.prog 20 #[.string s, .int .i64 x] w fun r w' => r = .returned (.tuple #[.int .i64 (if x < 0 then -1 else if 0 < x then 1 else 0), .int .i64 0]) ∧ Below w.heap.size w w' := by
  have g1 : (s.toList == [45]) = false := by rw [hs]; rfl
  have g2 : (s.toList == [97, 98, 115]) = false := by rw [hs]; rfl
  have g3 : (s.toList == [115, 105, 103, 110]) = true := by rw [hs]; rfl
  clear hs
  go_enter Try.func20, Try.ntmps20
  go_wp2
  all_goals
    go_ret2
    exact ⟨ret2 (vint (by omega)) rfl, Below.refl _ _⟩
theorem single_any (s : ByteArray) (x : Int) (w : World) (hx : -9223372036854775808 ≤ x) (hx' : x ≤ 9223372036854775807) (hs : isOne s.toList = true) :
    Calls Try.prog 20 #[.string s, .int .i64 x] w fun r w' => r = .returned (.tuple #[.int .i64 (num1 s.toList x).1, .int .i64 (num1 s.toList x).2]) ∧ Below w.heap.size w w' := by
  rcases isOne_yes hs with h | h | h | h
  · have := sgl_plus s x w h; rw [h]; exact this
  · have := sgl_neg s x w hx hx' h; rw [h]; exact this
  · have := sgl_abs s x w hx hx' h; rw [h]; exact this
  · have := sgl_sign s x w h; rw [h]; exact this
end Go.Proofs.Ytifjdfdjojkagaa
namespace Go.Proofs.Ytifjdfdjojkagaa
open Go.RowKit Dg

/-- An atom has no arguments. -/
def T.atoms : T → Prop
  | .nil => True
  | .mk k _ _ m a => (k = 3 → m = 0) ∧ ∀ i, i < m → (a i).atoms

def RefR (t : T) (r : Ev) : Prop := ∀ (v : Value) (w : World), TIn w w.heap.size t v → Calls Try.prog 11 #[v] w fun e w' => e = evPair r ∧ Below w.heap.size w w'

set_option maxRecDepth 100000 in
set_option maxHeartbeats 2000000 in
theorem ref_int (n : Int) (s : ByteArray) (A : Option Addr) (m c : Nat) (w : World) :
    Calls Try.prog 11 #[.agg #[.int .i64 2, .int .i64 n, .string s, .slice A m c]] w fun e w' => e = evPair (.val n) ∧ Below w.heap.size w w' := by
  go_enter Try.func11, Try.ntmps11
  go_wp2_with fail
  refine bodyPost_ret (v := (.tuple #[.int .i64 n, .agg #[.int .i64 0, .string ⟨#[]⟩, .int .i64 0]])) (by simp [results, go_sem]) rfl ?_
  exact ⟨rfl, ((Below.refl _ _).alloc (Nat.le_refl _) _).alloc (by simp) _⟩
set_option maxRecDepth 100000 in
set_option maxHeartbeats 2000000 in
theorem ref_var (n : Int) (s : ByteArray) (A : Option Addr) (m c : Nat) (w : World) :
    Calls Try.prog 11 #[.agg #[.int .i64 1, .int .i64 n, .string s, .slice A m c]] w fun e w' => e = evPair (.flt 1 noName 0) ∧ Below w.heap.size w w' := by
  go_enter Try.func11, Try.ntmps11
  go_wp2_with fail
  refine bodyPost_ret (v := (.tuple #[.int .i64 0, .agg #[.int .i64 1, .string ⟨#[]⟩, .int .i64 0]])) (by simp [results, go_sem]) rfl ?_
  exact ⟨rfl, ((Below.refl _ _).alloc (Nat.le_refl _) _).alloc (by simp) _⟩
set_option maxRecDepth 100000 in
set_option maxHeartbeats 2000000 in
theorem ref_atom (n : Int) (s : ByteArray) (A : Option Addr) (m c : Nat) (w : World) :
    Calls Try.prog 11 #[.agg #[.int .i64 3, .int .i64 n, .string s, .slice A m c]] w fun e w' => e = evPair (.flt 2 s 0) ∧ Below w.heap.size w w' := by
  go_enter Try.func11, Try.ntmps11
  go_wp2_with fail
  go_region
  go_wp2_with fail
  refine bodyPost_ret (v := (.tuple #[.int .i64 0, .agg #[.int .i64 2, .string s, .int .i64 0]])) (by simp [results, go_sem]) rfl ?_
  exact ⟨rfl, (((Below.refl _ _).alloc (Nat.le_refl _) _).alloc (by simp) _).drew⟩
set_option maxRecDepth 100000 in
set_option maxHeartbeats 2000000 in
theorem ref_many (k n : Int) (s : ByteArray) (A : Option Addr) (m c : Nat) (w : World) (h1 : (k == 1) = false) (h2 : (k == 2) = false) (h3 : (k == 3) = false) (g1 : ((m : Int) == 1) = false) (g2 : ((m : Int) == 2) = false) :
    Calls Try.prog 11 #[.agg #[.int .i64 k, .int .i64 n, .string s, .slice A m c]] w fun e w' => e = evPair (.flt 2 s m) ∧ Below w.heap.size w w' := by
  go_enter Try.func11, Try.ntmps11
  go_wp2_with fail
  go_region
  go_wp2_with fail
  refine bodyPost_ret (v := (.tuple #[.int .i64 0, .agg #[.int .i64 2, .string s, .int .i64 m]])) (by simp [results, go_sem]) rfl ?_
  exact ⟨rfl, (((Below.refl _ _).alloc (Nat.le_refl _) _).alloc (by simp) _).drew⟩

set_option maxRecDepth 100000 in
set_option maxHeartbeats 2000000 in
theorem ref_one_no (k n : Int) (s : ByteArray) (A : Option Addr) (c : Nat) (w : World) (h1 : (k == 1) = false) (h2 : (k == 2) = false) (h3 : (k == 3) = false) (hs : isOne s.toList = false) :
    Calls Try.prog 11 #[.agg #[.int .i64 k, .int .i64 n, .string s, .slice A 1 c]] w fun e w' => e = evPair (.flt 2 s 1) ∧ Below w.heap.size w w' := by
  have hone := oneArg_any s
  rw [hs] at hone
  clear hs
  go_enter Try.func11, Try.ntmps11
  go_wp2_with fail
  refine (hone _).mono ?_
  rintro e w1 ⟨rfl, rfl⟩
  go_wp2_with fail
  go_region
  go_wp2_with fail
  refine bodyPost_ret (v := (.tuple #[.int .i64 0, .agg #[.int .i64 2, .string s, .int .i64 1]])) (by simp [results, go_sem]) rfl ?_
  exact ⟨rfl, (((Below.refl _ _).alloc (Nat.le_refl _) _).alloc (by simp) _).drew⟩
set_option maxRecDepth 100000 in
set_option maxHeartbeats 2000000 in
theorem ref_two_no (k n : Int) (s : ByteArray) (A : Option Addr) (c : Nat) (w : World) (h1 : (k == 1) = false) (h2 : (k == 2) = false) (h3 : (k == 3) = false) (hs : isTwo s.toList = false) :
    Calls Try.prog 11 #[.agg #[.int .i64 k, .int .i64 n, .string s, .slice A 2 c]] w fun e w' => e = evPair (.flt 2 s 2) ∧ Below w.heap.size w w' := by
  have hone := twoArgs_any s
  rw [hs] at hone
  clear hs
  go_enter Try.func11, Try.ntmps11
  go_wp2_with fail
  refine (hone _).mono ?_
  rintro e w1 ⟨rfl, rfl⟩
  go_wp2_with fail
  go_region
  go_wp2_with fail
  refine bodyPost_ret (v := (.tuple #[.int .i64 0, .agg #[.int .i64 2, .string s, .int .i64 2]])) (by simp [results, go_sem]) rfl ?_
  exact ⟨rfl, (((Below.refl _ _).alloc (Nat.le_refl _) _).alloc (by simp) _).drew⟩

/-- The contract of 'single' and 'double' (their own text proves it). -/
def Single : Prop := ∀ (s : ByteArray) (x : Int) (w : World), InR x → isOne s.toList = true →
  Calls Try.prog 20 #[.string s, .int .i64 x] w fun r w' => r = .returned (.tuple #[.int .i64 (num1 s.toList x).1, .int .i64 (num1 s.toList x).2]) ∧ Below w.heap.size w w'
def Double : Prop := ∀ (s : ByteArray) (x y : Int) (w : World), InR x → InR y → isTwo s.toList = true →
  Calls Try.prog 22 #[.string s, .int .i64 x, .int .i64 y] w fun r w' => r = .returned (.tuple #[.int .i64 (num2 s.toList x y).1, .int .i64 (num2 s.toList x y).2]) ∧ Below w.heap.size w w'

theorem fltV_agg (e : Int) (s : ByteArray) (n : Int) : ∃ fk fs fn, fltV e s n = .agg #[.int .i64 fk, .string fs, .int .i64 fn] := by
  unfold fltV
  split
  · exact ⟨_, _, _, rfl⟩
  split
  · exact ⟨_, _, _, rfl⟩
  split
  · exact ⟨_, _, _, rfl⟩
  · exact ⟨_, _, _, rfl⟩
/-- What a number and an error, told as a pair, come to. -/
theorem fltV_ev (p q : Int) (s : ByteArray) (m : Nat) (h : q = 0 ∨ (p = 0 ∧ (q = 1 ∨ q = 10 ∨ q = 11))) : Ending.returned (.tuple #[.int .i64 p, fltV q s m]) = evPair (ev p q s m) := by
  rcases h with rfl | ⟨rfl, rfl | rfl | rfl⟩ <;> rfl
theorem fit_ok (x : Int) : fitE x = 0 ∨ (fitV x = 0 ∧ (fitE x = 1 ∨ fitE x = 10 ∨ fitE x = 11)) := by
  rcases fit_cases x with ⟨_, _, _, h⟩ | ⟨_, h, h2⟩
  · exact .inl h
  · exact .inr ⟨h, .inr (.inl h2)⟩
def Good2 (x : Int × Int) : Prop := x.2 = 0 ∨ (x.1 = 0 ∧ (x.2 = 1 ∨ x.2 = 10 ∨ x.2 = 11))
theorem ite_good {c : Prop} [Decidable c] {a b : Int × Int} (ha : Good2 a) (hb : Good2 b) : Good2 (if c then a else b) := by
  by_cases h : c
  · rw [if_pos h]; exact ha
  · rw [if_neg h]; exact hb
theorem good_zero (x : Int) : Good2 (x, 0) := .inl rfl
theorem good_01 : Good2 (0, 1) := .inr ⟨rfl, .inl rfl⟩
theorem good_011 : Good2 (0, 11) := .inr ⟨rfl, .inr (.inr rfl)⟩
theorem good_fit (x : Int) : Good2 (fitV x, fitE x) := fit_ok x
theorem num2_good (l : List UInt8) (x y : Int) : Good2 (num2 l x y) := by
  unfold num2
  repeat' first | exact good_fit _ | exact good_zero _ | exact good_01 | exact good_011 | refine ite_good ?_ ?_
theorem num1_good (l : List UInt8) (x : Int) : Good2 (num1 l x) := by
  unfold num1
  repeat' first | exact good_fit _ | exact good_zero _ | exact good_01 | exact good_011 | refine ite_good ?_ ?_

theorem heap_mid (w : World) (o1 o2 : Obj) : ((w.alloc o1).alloc o2).heap[w.heap.size + 1]? = some o2 := by
  have e : w.heap.size + 1 = (w.alloc o1).heap.size := by simp
  rw [e]; exact heap_alloc_new _ _
theorem heap_mid0 (w : World) (o1 o2 : Obj) : ((w.alloc o1).alloc o2).heap[w.heap.size]? = some o1 := by
  rw [((Below.refl (w.alloc o1).heap.size _).alloc (Nat.le_refl _) o2).block _ (by simp)]; exact heap_alloc_new _ _
set_option maxRecDepth 100000 in
set_option maxHeartbeats 2000000 in
theorem ref_one (k n : Int) (s : ByteArray) (a : Nat → T) (A : Option Addr) (c : Nat) (w : World) (hT : TAt w w.heap.size k n s 1 a A c) (r0 : Ev) (h0 : RefR (a 0) r0) (b0 : ∀ x, r0 = .val x → InR x) (k0 : ∀ fk fs fn, r0 = .flt fk fs fn → ¬ fk = 0)
    (h1 : (k == 1) = false) (h2 : (k == 2) = false) (h3 : (k == 3) = false) (hs : isOne s.toList = true) (hsg : Single) :
    Calls Try.prog 11 #[.agg #[.int .i64 k, .int .i64 n, .string s, .slice A 1 c]] w fun e w' => e = evPair (ev1 s r0) ∧ Below w.heap.size w w' := by
  obtain ⟨b, off, rfl, hb, hc⟩ := hT.cells (by omega)
  obtain ⟨v0, v1, v2, v3, c0, c1, c2, c3, ht0⟩ := hc 0 (by omega)
  have hone := oneArg_any s
  rw [hs] at hone
  have hb1 := ((Below.refl w.heap.size w).alloc (Nat.le_refl _) (Obj.cells #[.int .i64 k, .int .i64 n, .string s, .slice (some ⟨b, off, none⟩) 1 c] 29)).alloc (by simp) (Obj.cells #[.int .i64 0, .string ⟨#[]⟩, .int .i64 0] 31)
  have HT0 := Lib.hid ht0
  have HB1 := Lib.hid hb1
  have d0 := (hb1.cell (p := ⟨b, off, none⟩) hb).trans c0
  have d1 := (hb1.cell (p := ⟨b, off + 1, none⟩) hb).trans c1
  have d2 := (hb1.cell (p := ⟨b, off + 2, none⟩) hb).trans c2
  have d3 := (hb1.cell (p := ⟨b, off + 3, none⟩) hb).trans c3
  clear hc hT c0 c1 c2 c3 ht0 hb hb1
  rcases r0 with x | ⟨fk, fs, fn⟩
  · have hx := b0 x rfl
    obtain ⟨p, q, hpq⟩ : ∃ p q, num1 s.toList x = (p, q) := ⟨_, _, rfl⟩
    have hsx := fun w => hsg s x w hx hs
    simp only [hpq] at hsx
    obtain ⟨fk, fs, fn, hfl⟩ := fltV_agg q s 1
    have hfa := fun w => fault_any q s 1 w
    simp only [hfl] at hfa
    have hev : evPair (ev1 s (.val x)) = .returned (.tuple #[.int .i64 p, .agg #[.int .i64 fk, .string fs, .int .i64 fn]]) := by
      unfold ev1
      dsimp only
      rw [hpq]
      dsimp only
      have hg := num1_good s.toList x
      rw [hpq] at hg
      rw [← fltV_ev p q s 1 hg, ← hfl]
      rfl
    rw [hev]
    clear hev hfl hpq hsg k0 b0
    go_enter Try.func11, Try.ntmps11
    go_wp2_with fail
    refine (hone _).mono ?_
    rintro e w1 ⟨rfl, rfl⟩
    go_wp2_with fail
    refine (h0 _ _ ((HT0.out.below HB1.out).more (by simp; omega))).mono ?_
    clear d0 d1 d2 d3 h0 hone hs
    rintro e w3 ⟨rfl, h3⟩
    have H3 := Lib.hid (HB1.out.trans (h3.mono (by simp; omega)))
    have X2 := Lib.hid ((h3.block (w.heap.size + 1) (by simp)).trans (heap_mid w _ _))
    have X1 := Lib.hid ((h3.block w.heap.size (by simp; omega)).trans (heap_mid0 w _ _))
    have H3S := Lib.hid h3.size
    clear h3
    obtain ⟨x0, x1, x2, x3⟩ := box4 X1.out
    obtain ⟨q0, q1, q2⟩ := box3 X2.out
    have hz := Nat.lt_of_lt_of_le (show w.heap.size + 1 < _ by simp) H3S.out
    have W1 := (Below.heap_alloc w3 (Obj.cells #[.int .i64 0, .string noName, .int .i64 0] 31) w.heap.size (by omega)).trans X1.out
    have W2 := (Below.heap_alloc w3 (Obj.cells #[.int .i64 0, .string noName, .int .i64 0] 31) (w.heap.size + 1) hz).trans X2.out
    obtain ⟨y0, y1, y2, y3⟩ := box4 W1
    have Y1 := Lib.hid W1
    have Y2 := Lib.hid W2
    have HZ := Lib.hid hz
    have HW := Lib.hid (H3.out.alloc H3.out.size (Obj.cells #[.int .i64 0, .string noName, .int .i64 0] 31))
    clear W1 W2 hz
    simp only [evPair]
    go_wp2_with fail
    refine (hsx _).mono ?_
    rintro e w5 ⟨rfl, h5⟩
    have H5 := Lib.hid (HW.out.trans (h5.mono HW.out.size))
    have V1 := Lib.hid ((h5.block w.heap.size (by have := HZ.out; simp; omega)).trans Y1.out)
    have V2 := Lib.hid ((h5.block (w.heap.size + 1) (by have := HZ.out; simp; omega)).trans Y2.out)
    clear h5 x0 x1 x2 x3 y0 y1 y2 y3 q0 q1 q2
    obtain ⟨x0, x1, x2, x3⟩ := box4 V1.out
    go_wp2_with fail
    refine (hfa _).mono ?_
    rintro e w6 ⟨rfl, h6⟩
    clear x0 x1 x2 x3
    have H6 := Lib.hid (H5.out.trans (h6.mono H5.out.size))
    have l5 := Lib.hid (World.lt_of_heap V2.out)
    have U2 := Lib.hid ((h6.block (w.heap.size + 1) l5.out).trans V2.out)
    clear h6
    obtain ⟨q0, q1, q2⟩ := box3 U2.out
    have f0 : w6.frozen? ⟨w.heap.size + 1, 0, none⟩ = false := by simp [World.frozen?, U2.out]
    have f1 : w6.frozen? ⟨w.heap.size + 1, 1, none⟩ = false := by simp [World.frozen?, U2.out]
    have f2 : w6.frozen? ⟨w.heap.size + 1, 2, none⟩ = false := by simp [World.frozen?, U2.out]
    go_wp2_with fail
    have HE := Lib.hid (((H6.out.setCell (p := ⟨w.heap.size + 1, 0, none⟩) (by simp) (.int .i64 fk)).setCell (p := ⟨w.heap.size + 1, 1, none⟩) (by simp) (.string fs)).setCell (p := ⟨w.heap.size + 1, 2, none⟩) (by simp) (.int .i64 fn))
    have Z := Blk.set_ (Blk.set_ (Blk.set_ U2.out 0 (.int .i64 fk)) 1 (.string fs)) 2 (.int .i64 fn)
    clear q0 q1 q2 f0 f1 f2
    obtain ⟨q0, q1, q2⟩ := box3 Z
    refine bodyPost_ret (v := (.tuple #[.int .i64 p, .agg #[.int .i64 fk, .string fs, .int .i64 fn]])) (by simp [results, go_sem, q0, q1, q2]) rfl ?_
    exact ⟨rfl, HE.out⟩
  · have hk := k0 fk fs fn rfl
    clear k0 b0
    show Calls _ _ _ _ fun e w' => e = evPair (.flt fk fs fn) ∧ _
    go_enter Try.func11, Try.ntmps11
    go_wp2_with fail
    refine (hone _).mono ?_
    rintro e w1 ⟨rfl, rfl⟩
    go_wp2_with fail
    refine (h0 _ _ ((HT0.out.below HB1.out).more (by simp; omega))).mono ?_
    clear d0 d1 d2 d3 h0 hone hs
    rintro e w3 ⟨rfl, h3⟩
    have H3 := Lib.hid (HB1.out.trans (h3.mono (by simp; omega)))
    have X2 := Lib.hid ((h3.block (w.heap.size + 1) (by simp)).trans (heap_mid w _ _))
    have X1 := Lib.hid ((h3.block w.heap.size (by simp; omega)).trans (heap_mid0 w _ _))
    have H3S := Lib.hid h3.size
    clear h3
    obtain ⟨x0, x1, x2, x3⟩ := box4 X1.out
    obtain ⟨q0, q1, q2⟩ := box3 X2.out
    have f0 : w3.frozen? ⟨w.heap.size + 1, 0, none⟩ = false := by simp [World.frozen?, X2.out]
    have f1 : w3.frozen? ⟨w.heap.size + 1, 1, none⟩ = false := by simp [World.frozen?, X2.out]
    have f2 : w3.frozen? ⟨w.heap.size + 1, 2, none⟩ = false := by simp [World.frozen?, X2.out]
    simp only [evPair]
    go_wp2_with fail
    have hz := Nat.lt_of_lt_of_le (show w.heap.size + 1 < _ by simp) H3S.out
    have Y2 := (((Below.refl w3.heap.size w3).alloc (Nat.le_refl _) (Obj.cells #[.int .i64 fk, .string fs, .int .i64 fn] 31)).block (w.heap.size + 1) (by omega)).trans X2.out
    have Y3 := heap_alloc_new w3 (Obj.cells #[.int .i64 fk, .string fs, .int .i64 fn] 31)
    clear x0 x1 x2 x3
    obtain ⟨y0, y1, y2⟩ := box3 Y2
    obtain ⟨z0, z1, z2⟩ := box3 Y3
    have g0 : (w3.alloc (Obj.cells #[.int .i64 fk, .string fs, .int .i64 fn] 31)).frozen? ⟨w.heap.size + 1, 0, none⟩ = false := by simp [World.frozen?, Y2]
    have g1 : (w3.alloc (Obj.cells #[.int .i64 fk, .string fs, .int .i64 fn] 31)).frozen? ⟨w.heap.size + 1, 1, none⟩ = false := by simp [World.frozen?, Y2]
    have g2 : (w3.alloc (Obj.cells #[.int .i64 fk, .string fs, .int .i64 fn] 31)).frozen? ⟨w.heap.size + 1, 2, none⟩ = false := by simp [World.frozen?, Y2]
    have HE := Lib.hid (((((H3.out.setCell (p := ⟨w.heap.size + 1, 0, none⟩) (by simp) (.int .i64 fk)).setCell (p := ⟨w.heap.size + 1, 1, none⟩) (by simp) (.string fs)).setCell (p := ⟨w.heap.size + 1, 2, none⟩) (by simp) (.int .i64 fn)).alloc (by simp; exact H3.out.size) (Obj.cells #[.int .i64 fk, .string fs, .int .i64 fn] 31)).drew)
    have Z := (Below.heap_alloc _ (Obj.cells #[.int .i64 fk, .string fs, .int .i64 fn] 31) _ (by simp; omega)).trans (Blk.set_ (Blk.set_ (Blk.set_ X2.out 0 (.int .i64 fk)) 1 (.string fs)) 2 (.int .i64 fn))
    have ZZ := Lib.hid Z
    clear Z
    clear Y2 Y3
    go_region
    go_wp2_with fail
    clear q0 q1 q2 f0 f1 f2 y0 y1 y2 g0 g1 g2 z0 z1 z2
    obtain ⟨q0, q1, q2⟩ := box3 ZZ.out
    refine bodyPost_ret (v := (.tuple #[.int .i64 0, .agg #[.int .i64 fk, .string fs, .int .i64 fn]])) (by simp [results, go_sem, q0, q1, q2]) rfl ?_
    exact ⟨rfl, HE.out⟩
end Go.Proofs.Ytifjdfdjojkagaa
namespace Go.Proofs.Ytifjdfdjojkagaa
open Go.RowKit Dg

set_option maxRecDepth 100000 in
set_option maxHeartbeats 4000000 in
theorem ref_two (k n : Int) (s : ByteArray) (a : Nat → T) (A : Option Addr) (c : Nat) (w : World) (hT : TAt w w.heap.size k n s 2 a A c) (r0 r1 : Ev) (h0 : RefR (a 0) r0) (h1r : RefR (a 1) r1)
    (b0 : ∀ x, r0 = .val x → InR x) (b1 : ∀ x, r1 = .val x → InR x) (k0 : ∀ fk fs fn, r0 = .flt fk fs fn → ¬ fk = 0) (k1 : ∀ fk fs fn, r1 = .flt fk fs fn → ¬ fk = 0)
    (h1 : (k == 1) = false) (h2 : (k == 2) = false) (h3 : (k == 3) = false) (hs : isTwo s.toList = true) (hdb : Double) :
    Calls Try.prog 11 #[.agg #[.int .i64 k, .int .i64 n, .string s, .slice A 2 c]] w fun e w' => e = evPair (ev2 s r0 r1) ∧ Below w.heap.size w w' := by
  obtain ⟨b, off, rfl, hb, hc⟩ := hT.cells (by omega)
  obtain ⟨v0, v1, v2, v3, c0, c1, c2, c3, ht0⟩ := hc 0 (by omega)
  obtain ⟨u0, u1, u2, u3, e0, e1, e2, e3, ht1⟩ := hc 1 (by omega)
  have htwo := twoArgs_any s
  rw [hs] at htwo
  have hb1 := ((Below.refl w.heap.size w).alloc (Nat.le_refl _) (Obj.cells #[.int .i64 k, .int .i64 n, .string s, .slice (some ⟨b, off, none⟩) 2 c] 29)).alloc (by simp) (Obj.cells #[.int .i64 0, .string ⟨#[]⟩, .int .i64 0] 31)
  have HT0 := Lib.hid ht0
  have HT1 := Lib.hid ht1
  have HB1 := Lib.hid hb1
  have HC1 := Lib.hid (show ∀ w1 : World, Below w.heap.size w w1 → w1.cell? ⟨b, off + 4, none⟩ = some u0 ∧ w1.cell? ⟨b, off + 4 + 1, none⟩ = some u1 ∧ w1.cell? ⟨b, off + 4 + 2, none⟩ = some u2 ∧ w1.cell? ⟨b, off + 4 + 3, none⟩ = some u3 from
    fun w1 h => ⟨(h.cell hb).trans e0, (h.cell hb).trans e1, (h.cell hb).trans e2, (h.cell hb).trans e3⟩)
  have d0 := (hb1.cell (p := ⟨b, off, none⟩) hb).trans c0
  have d1 := (hb1.cell (p := ⟨b, off + 1, none⟩) hb).trans c1
  have d2 := (hb1.cell (p := ⟨b, off + 2, none⟩) hb).trans c2
  have d3 := (hb1.cell (p := ⟨b, off + 3, none⟩) hb).trans c3
  clear hc hT c0 c1 c2 c3 e0 e1 e2 e3 ht0 ht1 hb hb1
  rcases r0 with x | ⟨fk, fs, fn⟩
  · have hx := b0 x rfl
    clear b0 k0
    rcases r1 with y | ⟨fk, fs, fn⟩
    · have hy := b1 y rfl
      clear b1 k1
      obtain ⟨p, q, hpq⟩ : ∃ p q, num2 s.toList x y = (p, q) := ⟨_, _, rfl⟩
      have hsx := fun w => hdb s x y w hx hy hs
      simp only [hpq] at hsx
      obtain ⟨fk, fs, fn, hfl⟩ := fltV_agg q s 2
      have hfa := fun w => fault_any q s 2 w
      simp only [hfl] at hfa
      have hev : evPair (ev2 s (.val x) (.val y)) = .returned (.tuple #[.int .i64 p, .agg #[.int .i64 fk, .string fs, .int .i64 fn]]) := by
        unfold ev2
        dsimp only
        rw [hpq]
        dsimp only
        have hg := num2_good s.toList x y
        rw [hpq] at hg
        rw [← fltV_ev p q s 2 hg, ← hfl]
        rfl
      rw [hev]
      clear hev hfl hpq hdb
      go_enter Try.func11, Try.ntmps11
      go_wp2_with fail
      refine (htwo _).mono ?_
      rintro e w1 ⟨rfl, rfl⟩
      go_wp2_with fail
      refine (h0 _ _ ((HT0.out.below HB1.out).more (by simp; omega))).mono ?_
      clear d0 d1 d2 d3 h0 htwo hs
      rintro e w3 ⟨rfl, h3⟩
      have H3 := Lib.hid (HB1.out.trans (h3.mono (by simp; omega)))
      have X2 := Lib.hid ((h3.block (w.heap.size + 1) (by simp)).trans (heap_mid w _ _))
      have X1 := Lib.hid ((h3.block w.heap.size (by simp; omega)).trans (heap_mid0 w _ _))
      have H3S := Lib.hid h3.size
      clear h3
      have hz := Nat.lt_of_lt_of_le (show w.heap.size + 1 < _ by simp) H3S.out
      have W1 := (Below.heap_alloc w3 (Obj.cells #[.int .i64 0, .string noName, .int .i64 0] 31) w.heap.size (by omega)).trans X1.out
      have W2 := (Below.heap_alloc w3 (Obj.cells #[.int .i64 0, .string noName, .int .i64 0] 31) (w.heap.size + 1) hz).trans X2.out
      obtain ⟨y0, y1, y2, y3⟩ := box4 W1
      have Y1 := Lib.hid W1
      have Y2 := Lib.hid W2
      have HZ := Lib.hid hz
      have hw := H3.out.alloc H3.out.size (Obj.cells #[.int .i64 0, .string noName, .int .i64 0] 31)
      obtain ⟨e0, e1, e2, e3⟩ := HC1.out _ hw
      have HW := Lib.hid hw
      clear W1 W2 hz hw
      simp only [evPair]
      go_wp2_with fail
      refine (h1r _ _ ((HT1.out.below HW.out).more HW.out.size)).mono ?_
      rintro e w4 ⟨rfl, h4⟩
      have H4 := Lib.hid (HW.out.trans (h4.mono HW.out.size))
      have V1 := Lib.hid ((h4.block w.heap.size (by have := HZ.out; simp; omega)).trans Y1.out)
      have V2 := Lib.hid ((h4.block (w.heap.size + 1) (by have := HZ.out; simp; omega)).trans Y2.out)
      clear h4 y0 y1 y2 y3 e0 e1 e2 e3
      have hz := World.lt_of_heap V2.out
      have W1 := (Below.heap_alloc w4 (Obj.cells #[.int .i64 0, .string noName, .int .i64 0] 31) w.heap.size (by omega)).trans V1.out
      have W2 := (Below.heap_alloc w4 (Obj.cells #[.int .i64 0, .string noName, .int .i64 0] 31) (w.heap.size + 1) hz).trans V2.out
      obtain ⟨y0, y1, y2, y3⟩ := box4 W1
      have P1 := Lib.hid W1
      have P2 := Lib.hid W2
      have PZ := Lib.hid hz
      have PW := Lib.hid (H4.out.alloc H4.out.size (Obj.cells #[.int .i64 0, .string noName, .int .i64 0] 31))
      clear W1 W2 hz
      simp only [evPair]
      go_wp2_with fail
      refine (hsx _).mono ?_
      rintro e w5 ⟨rfl, h5⟩
      have H5 := Lib.hid (PW.out.trans (h5.mono PW.out.size))
      have Q1 := Lib.hid ((h5.block w.heap.size (by have := PZ.out; simp; omega)).trans P1.out)
      have Q2 := Lib.hid ((h5.block (w.heap.size + 1) (by have := PZ.out; simp; omega)).trans P2.out)
      clear h5 y0 y1 y2 y3
      obtain ⟨x0, x1, x2, x3⟩ := box4 Q1.out
      go_wp2_with fail
      refine (hfa _).mono ?_
      rintro e w6 ⟨rfl, h6⟩
      clear x0 x1 x2 x3
      have H6 := Lib.hid (H5.out.trans (h6.mono H5.out.size))
      have l5 := Lib.hid (World.lt_of_heap Q2.out)
      have U2 := Lib.hid ((h6.block (w.heap.size + 1) l5.out).trans Q2.out)
      clear h6
      obtain ⟨q0, q1, q2⟩ := box3 U2.out
      have f0 : w6.frozen? ⟨w.heap.size + 1, 0, none⟩ = false := by simp [World.frozen?, U2.out]
      have f1 : w6.frozen? ⟨w.heap.size + 1, 1, none⟩ = false := by simp [World.frozen?, U2.out]
      have f2 : w6.frozen? ⟨w.heap.size + 1, 2, none⟩ = false := by simp [World.frozen?, U2.out]
      go_wp2_with fail
      have HE := Lib.hid (((H6.out.setCell (p := ⟨w.heap.size + 1, 0, none⟩) (by simp) (.int .i64 fk)).setCell (p := ⟨w.heap.size + 1, 1, none⟩) (by simp) (.string fs)).setCell (p := ⟨w.heap.size + 1, 2, none⟩) (by simp) (.int .i64 fn))
      have Z := Blk.set_ (Blk.set_ (Blk.set_ U2.out 0 (.int .i64 fk)) 1 (.string fs)) 2 (.int .i64 fn)
      clear q0 q1 q2 f0 f1 f2
      obtain ⟨q0, q1, q2⟩ := box3 Z
      refine bodyPost_ret (v := (.tuple #[.int .i64 p, .agg #[.int .i64 fk, .string fs, .int .i64 fn]])) (by simp [results, go_sem, q0, q1, q2]) rfl ?_
      exact ⟨rfl, HE.out⟩
    · have hk := k1 fk fs fn rfl
      clear k1 b1
      show Calls _ _ _ _ fun e w' => e = evPair (.flt fk fs fn) ∧ _
      go_enter Try.func11, Try.ntmps11
      go_wp2_with fail
      refine (htwo _).mono ?_
      rintro e w1 ⟨rfl, rfl⟩
      go_wp2_with fail
      refine (h0 _ _ ((HT0.out.below HB1.out).more (by simp; omega))).mono ?_
      clear d0 d1 d2 d3 h0 htwo hs
      rintro e w3 ⟨rfl, h3⟩
      have H3 := Lib.hid (HB1.out.trans (h3.mono (by simp; omega)))
      have X2 := Lib.hid ((h3.block (w.heap.size + 1) (by simp)).trans (heap_mid w _ _))
      have X1 := Lib.hid ((h3.block w.heap.size (by simp; omega)).trans (heap_mid0 w _ _))
      have H3S := Lib.hid h3.size
      clear h3
      have hz := Nat.lt_of_lt_of_le (show w.heap.size + 1 < _ by simp) H3S.out
      have W1 := (Below.heap_alloc w3 (Obj.cells #[.int .i64 0, .string noName, .int .i64 0] 31) w.heap.size (by omega)).trans X1.out
      have W2 := (Below.heap_alloc w3 (Obj.cells #[.int .i64 0, .string noName, .int .i64 0] 31) (w.heap.size + 1) hz).trans X2.out
      obtain ⟨y0, y1, y2, y3⟩ := box4 W1
      have Y1 := Lib.hid W1
      have Y2 := Lib.hid W2
      have HZ := Lib.hid hz
      have hw := H3.out.alloc H3.out.size (Obj.cells #[.int .i64 0, .string noName, .int .i64 0] 31)
      obtain ⟨e0, e1, e2, e3⟩ := HC1.out _ hw
      have HW := Lib.hid hw
      clear W1 W2 hz hw
      simp only [evPair]
      go_wp2_with fail
      refine (h1r _ _ ((HT1.out.below HW.out).more HW.out.size)).mono ?_
      rintro e w4 ⟨rfl, h4⟩
      have H4 := Lib.hid (HW.out.trans (h4.mono HW.out.size))
      have V1 := Lib.hid ((h4.block w.heap.size (by have := HZ.out; simp; omega)).trans Y1.out)
      have V2 := Lib.hid ((h4.block (w.heap.size + 1) (by have := HZ.out; simp; omega)).trans Y2.out)
      clear h4 y0 y1 y2 y3 e0 e1 e2 e3
      have hz := World.lt_of_heap V2.out
      obtain ⟨q0, q1, q2⟩ := box3 V2.out
      have f0 : w4.frozen? ⟨w.heap.size + 1, 0, none⟩ = false := by simp [World.frozen?, V2.out]
      have f1 : w4.frozen? ⟨w.heap.size + 1, 1, none⟩ = false := by simp [World.frozen?, V2.out]
      have f2 : w4.frozen? ⟨w.heap.size + 1, 2, none⟩ = false := by simp [World.frozen?, V2.out]
      simp only [evPair]
      go_wp2_with fail
      have Y2 := (((Below.refl w4.heap.size w4).alloc (Nat.le_refl _) (Obj.cells #[.int .i64 fk, .string fs, .int .i64 fn] 31)).block (w.heap.size + 1) (by omega)).trans V2.out
      have Y3 := heap_alloc_new w4 (Obj.cells #[.int .i64 fk, .string fs, .int .i64 fn] 31)
      obtain ⟨y0, y1, y2⟩ := box3 Y2
      obtain ⟨z0, z1, z2⟩ := box3 Y3
      have g0 : (w4.alloc (Obj.cells #[.int .i64 fk, .string fs, .int .i64 fn] 31)).frozen? ⟨w.heap.size + 1, 0, none⟩ = false := by simp [World.frozen?, Y2]
      have g1 : (w4.alloc (Obj.cells #[.int .i64 fk, .string fs, .int .i64 fn] 31)).frozen? ⟨w.heap.size + 1, 1, none⟩ = false := by simp [World.frozen?, Y2]
      have g2 : (w4.alloc (Obj.cells #[.int .i64 fk, .string fs, .int .i64 fn] 31)).frozen? ⟨w.heap.size + 1, 2, none⟩ = false := by simp [World.frozen?, Y2]
      have HE := Lib.hid (((((H4.out.setCell (p := ⟨w.heap.size + 1, 0, none⟩) (by simp) (.int .i64 fk)).setCell (p := ⟨w.heap.size + 1, 1, none⟩) (by simp) (.string fs)).setCell (p := ⟨w.heap.size + 1, 2, none⟩) (by simp) (.int .i64 fn)).alloc (by simp; exact H4.out.size) (Obj.cells #[.int .i64 fk, .string fs, .int .i64 fn] 31)).drew)
      have Z := (Below.heap_alloc _ (Obj.cells #[.int .i64 fk, .string fs, .int .i64 fn] 31) _ (by simp; omega)).trans (Blk.set_ (Blk.set_ (Blk.set_ V2.out 0 (.int .i64 fk)) 1 (.string fs)) 2 (.int .i64 fn))
      have ZZ := Lib.hid Z
      clear Z
      clear Y2 Y3
      go_region
      go_wp2_with fail
      clear q0 q1 q2 f0 f1 f2 y0 y1 y2 g0 g1 g2 z0 z1 z2
      obtain ⟨q0, q1, q2⟩ := box3 ZZ.out
      refine bodyPost_ret (v := (.tuple #[.int .i64 0, .agg #[.int .i64 fk, .string fs, .int .i64 fn]])) (by simp [results, go_sem, q0, q1, q2]) rfl ?_
      exact ⟨rfl, HE.out⟩
  · have hk := k0 fk fs fn rfl
    clear k0 b0 k1 b1
    show Calls _ _ _ _ fun e w' => e = evPair (.flt fk fs fn) ∧ _
    go_enter Try.func11, Try.ntmps11
    go_wp2_with fail
    refine (htwo _).mono ?_
    rintro e w1 ⟨rfl, rfl⟩
    go_wp2_with fail
    refine (h0 _ _ ((HT0.out.below HB1.out).more (by simp; omega))).mono ?_
    clear d0 d1 d2 d3 h0 htwo hs h1r
    rintro e w3 ⟨rfl, h3⟩
    have H3 := Lib.hid (HB1.out.trans (h3.mono (by simp; omega)))
    have X2 := Lib.hid ((h3.block (w.heap.size + 1) (by simp)).trans (heap_mid w _ _))
    have X1 := Lib.hid ((h3.block w.heap.size (by simp; omega)).trans (heap_mid0 w _ _))
    have H3S := Lib.hid h3.size
    clear h3
    have hz := Nat.lt_of_lt_of_le (show w.heap.size + 1 < _ by simp) H3S.out
    obtain ⟨x0, x1, x2, x3⟩ := box4 X1.out
    obtain ⟨q0, q1, q2⟩ := box3 X2.out
    have f0 : w3.frozen? ⟨w.heap.size + 1, 0, none⟩ = false := by simp [World.frozen?, X2.out]
    have f1 : w3.frozen? ⟨w.heap.size + 1, 1, none⟩ = false := by simp [World.frozen?, X2.out]
    have f2 : w3.frozen? ⟨w.heap.size + 1, 2, none⟩ = false := by simp [World.frozen?, X2.out]
    simp only [evPair]
    go_wp2_with fail
    clear x0 x1 x2 x3
    have Y2 := (((Below.refl w3.heap.size w3).alloc (Nat.le_refl _) (Obj.cells #[.int .i64 fk, .string fs, .int .i64 fn] 31)).block (w.heap.size + 1) (by omega)).trans X2.out
    have Y3 := heap_alloc_new w3 (Obj.cells #[.int .i64 fk, .string fs, .int .i64 fn] 31)
    obtain ⟨y0, y1, y2⟩ := box3 Y2
    obtain ⟨z0, z1, z2⟩ := box3 Y3
    have g0 : (w3.alloc (Obj.cells #[.int .i64 fk, .string fs, .int .i64 fn] 31)).frozen? ⟨w.heap.size + 1, 0, none⟩ = false := by simp [World.frozen?, Y2]
    have g1 : (w3.alloc (Obj.cells #[.int .i64 fk, .string fs, .int .i64 fn] 31)).frozen? ⟨w.heap.size + 1, 1, none⟩ = false := by simp [World.frozen?, Y2]
    have g2 : (w3.alloc (Obj.cells #[.int .i64 fk, .string fs, .int .i64 fn] 31)).frozen? ⟨w.heap.size + 1, 2, none⟩ = false := by simp [World.frozen?, Y2]
    have HE := Lib.hid (((((H3.out.setCell (p := ⟨w.heap.size + 1, 0, none⟩) (by simp) (.int .i64 fk)).setCell (p := ⟨w.heap.size + 1, 1, none⟩) (by simp) (.string fs)).setCell (p := ⟨w.heap.size + 1, 2, none⟩) (by simp) (.int .i64 fn)).alloc (by simp; exact H3.out.size) (Obj.cells #[.int .i64 fk, .string fs, .int .i64 fn] 31)).drew)
    have Z := (Below.heap_alloc _ (Obj.cells #[.int .i64 fk, .string fs, .int .i64 fn] 31) _ (by simp; omega)).trans (Blk.set_ (Blk.set_ (Blk.set_ X2.out 0 (.int .i64 fk)) 1 (.string fs)) 2 (.int .i64 fn))
    have ZZ := Lib.hid Z
    clear Z
    clear Y2 Y3
    go_region
    go_wp2_with fail
    clear q0 q1 q2 f0 f1 f2 y0 y1 y2 g0 g1 g2 z0 z1 z2
    obtain ⟨q0, q1, q2⟩ := box3 ZZ.out
    refine bodyPost_ret (v := (.tuple #[.int .i64 0, .agg #[.int .i64 fk, .string fs, .int .i64 fn]])) (by simp [results, go_sem, q0, q1, q2]) rfl ?_
    exact ⟨rfl, HE.out⟩
end Go.Proofs.Ytifjdfdjojkagaa
namespace Go.Proofs.Ytifjdfdjojkagaa
open Go.RowKit

theorem single_ : Single := fun s x w h hs => single_any s x w h.1 h.2 hs
theorem double_ : Double := fun s x y w h h' hs => double_any s x y w h.1 h.2 h'.1 h'.2 hs

theorem ev_kind {p q : Int} {s : ByteArray} {m : Nat} {k : Int} {s' : ByteArray} {n : Int} (h : ev p q s m = .flt k s' n) : ¬ k = 0 := by
  unfold ev at h
  by_cases h0 : q = 0
  · rw [if_pos h0] at h; cases h
  rw [if_neg h0] at h
  by_cases h1 : q = 11
  · rw [if_pos h1] at h; cases h; decide
  rw [if_neg h1] at h
  by_cases h2 : q = 10
  · rw [if_pos h2] at h; cases h; decide
  rw [if_neg h2] at h; cases h; decide
theorem evT_kind : ∀ t : T, ∀ k s n, evT t = .flt k s n → ¬ k = 0 := by
  intro t
  induction t with
  | nil => intro k s n h; cases h
  | mk k n s m a ih =>
    intro fk fs fn h
    unfold evT at h
    by_cases h2 : k = 2
    · rw [if_pos h2] at h; cases h
    rw [if_neg h2] at h
    by_cases h1 : k = 1
    · rw [if_pos h1] at h; cases h; decide
    rw [if_neg h1] at h
    by_cases m1 : m = 1
    · rw [if_pos m1] at h
      cases ho : isOne s.toList
      · rw [ho] at h; cases h; decide
      · rw [ho, if_pos rfl] at h
        cases h0 : evT (a 0) with
        | val y => rw [h0] at h; unfold ev1 at h; exact ev_kind h
        | flt k' s' n' => rw [h0] at h; unfold ev1 at h; cases h; exact ih 0 _ _ _ h0
    rw [if_neg m1] at h
    by_cases m2 : m = 2
    · rw [if_pos m2] at h
      cases ho : isTwo s.toList
      · rw [ho] at h; cases h; decide
      · rw [ho, if_pos rfl] at h
        cases h0 : evT (a 0) with
        | val y =>
          cases h1 : evT (a 1) with
          | val z => rw [h0, h1] at h; unfold ev2 at h; exact ev_kind h
          | flt k' s' n' => rw [h0, h1] at h; unfold ev2 at h; cases h; exact ih 1 _ _ _ h1
        | flt k' s' n' => rw [h0] at h; unfold ev2 at h; cases h; exact ih 0 _ _ _ h0
    rw [if_neg m2] at h
    cases h; decide

theorem refEval_any : ∀ t : T, t.inR → t.atoms → RefR t (evT t) := by
  intro t
  induction t with
  | nil => intro _ _ v w hv; exact hv.elim
  | mk k n s m a ih =>
    intro hr hat v w hv
    obtain ⟨A, c, rfl, hT⟩ := hv.open_
    unfold evT
    by_cases h2 : k = 2
    · subst h2; rw [if_pos rfl]; exact ref_int n s A m c w
    rw [if_neg h2]
    by_cases h1 : k = 1
    · subst h1; rw [if_pos rfl]; exact ref_var n s A m c w
    rw [if_neg h1]
    by_cases h3 : k = 3
    · have hm := hat.1 h3
      subst h3
      subst hm
      rw [if_neg (by decide), if_neg (by decide)]
      exact ref_atom n s A 0 c w
    have g2 : (k == 2) = false := by simpa using h2
    have g1 : (k == 1) = false := by simpa using h1
    have g3 : (k == 3) = false := by simpa using h3
    by_cases m1 : m = 1
    · subst m1
      rw [if_pos rfl]
      cases ho : isOne s.toList
      · rw [if_neg (by decide)]
        exact ref_one_no k n s A c w g1 g2 g3 ho
      · rw [if_pos rfl]
        exact ref_one k n s a A c w hT _ (ih 0 (hr.2 0 (by omega)) (hat.2 0 (by omega))) (evT_inR _ (hr.2 0 (by omega))) (evT_kind _) g1 g2 g3 ho single_
    rw [if_neg m1]
    by_cases m2 : m = 2
    · subst m2
      rw [if_pos rfl]
      cases ho : isTwo s.toList
      · rw [if_neg (by decide)]
        exact ref_two_no k n s A c w g1 g2 g3 ho
      · rw [if_pos rfl]
        exact ref_two k n s a A c w hT _ _ (ih 0 (hr.2 0 (by omega)) (hat.2 0 (by omega))) (ih 1 (hr.2 1 (by omega)) (hat.2 1 (by omega))) (evT_inR _ (hr.2 0 (by omega))) (evT_inR _ (hr.2 1 (by omega))) (evT_kind _) (evT_kind _) g1 g2 g3 ho double_
    rw [if_neg m2]
    exact ref_many k n s A m c w g1 g2 g3 (by simp; omega) (by simp; omega)
end Go.Proofs.Ytifjdfdjojkagaa
