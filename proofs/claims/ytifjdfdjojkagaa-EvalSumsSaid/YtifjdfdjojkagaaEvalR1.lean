/- The walks through coneyref13: single, double. -/
import Derived.Test.YtifjdfdjojkagaaEvalR0
import Derived.Test.YtifjdfdjojkagaaRef16
import Derived.Test.YtifjdfdjojkagaaRef9
import Derived.Test.YtifjdfdjojkagaaRef15
namespace Go.Proofs.Ytifjdfdjojkagaa
open Go.RowKit

set_option maxHeartbeats 1000000 in
theorem dbl_Add (s : ByteArray) (x y : Int) (w : World) (hx : -9223372036854775808 ≤ x) (hx' : x ≤ 9223372036854775807) (hy : -9223372036854775808 ≤ y) (hy' : y ≤ 9223372036854775807)  (hs : s.toList = [43]) :
    Calls Try.prog 22 #[.string s, .int .i64 x, .int .i64 y] w fun r w' => r = .returned (.tuple #[.int .i64 (fitV (x + y)), .int .i64 (fitE (x + y))]) ∧ Below w.heap.size w w' := by
  have g0 : (s.toList == [43]) = true := by rw [hs]; rfl
  clear hs
  go_enter Try.func22, Try.ntmps22
  go_wp2_with fail
  refine (rAdd_any x y _ hx hx' hy hy').mono ?_
  rintro e w1 ⟨rfl, h⟩
  have H := Lib.hid h
  clear h
  go_wp2
  go_ret2
  exact ⟨rfl, H.out⟩
set_option maxHeartbeats 1000000 in
theorem dbl_Sub (s : ByteArray) (x y : Int) (w : World) (hx : -9223372036854775808 ≤ x) (hx' : x ≤ 9223372036854775807) (hy : -9223372036854775808 ≤ y) (hy' : y ≤ 9223372036854775807)  (hs : s.toList = [45]) :
    Calls Try.prog 22 #[.string s, .int .i64 x, .int .i64 y] w fun r w' => r = .returned (.tuple #[.int .i64 (fitV (x - y)), .int .i64 (fitE (x - y))]) ∧ Below w.heap.size w w' := by
  have g0 : (s.toList == [43]) = false := by rw [hs]; rfl
  have g1 : (s.toList == [45]) = true := by rw [hs]; rfl
  clear hs
  go_enter Try.func22, Try.ntmps22
  go_wp2_with fail
  refine (rSub_any x y _ hx hx' hy hy').mono ?_
  rintro e w1 ⟨rfl, h⟩
  have H := Lib.hid h
  clear h
  go_wp2
  go_ret2
  exact ⟨rfl, H.out⟩
set_option maxHeartbeats 1000000 in
theorem dbl_Mul (s : ByteArray) (x y : Int) (w : World) (hx : -9223372036854775808 ≤ x) (hx' : x ≤ 9223372036854775807) (hy : -9223372036854775808 ≤ y) (hy' : y ≤ 9223372036854775807)  (hs : s.toList = [42]) :
    Calls Try.prog 22 #[.string s, .int .i64 x, .int .i64 y] w fun r w' => r = .returned (.tuple #[.int .i64 (fitV (x * y)), .int .i64 (fitE (x * y))]) ∧ Below w.heap.size w w' := by
  have g0 : (s.toList == [43]) = false := by rw [hs]; rfl
  have g1 : (s.toList == [45]) = false := by rw [hs]; rfl
  have g2 : (s.toList == [42]) = true := by rw [hs]; rfl
  clear hs
  go_enter Try.func22, Try.ntmps22
  go_wp2_with fail
  refine (rMul_any x y _ hx hx' hy hy').mono ?_
  rintro e w1 ⟨rfl, h⟩
  have H := Lib.hid h
  clear h
  go_wp2
  go_ret2
  exact ⟨rfl, H.out⟩
set_option maxHeartbeats 1000000 in
theorem dbl_Gcd (s : ByteArray) (x y : Int) (w : World) (hx : -9223372036854775808 ≤ x) (hx' : x ≤ 9223372036854775807) (hy : -9223372036854775808 ≤ y) (hy' : y ≤ 9223372036854775807)  (hs : s.toList = [103, 99, 100]) :
    Calls Try.prog 22 #[.string s, .int .i64 x, .int .i64 y] w fun r w' => r = .returned (.tuple #[.int .i64 (fitV ((Nat.gcd x.natAbs y.natAbs : Nat))), .int .i64 (fitE ((Nat.gcd x.natAbs y.natAbs : Nat)))]) ∧ Below w.heap.size w w' := by
  have g0 : (s.toList == [43]) = false := by rw [hs]; rfl
  have g1 : (s.toList == [45]) = false := by rw [hs]; rfl
  have g2 : (s.toList == [42]) = false := by rw [hs]; rfl
  have g3 : (s.toList == [47, 47]) = false := by rw [hs]; rfl
  have g4 : (s.toList == [114, 101, 109]) = false := by rw [hs]; rfl
  have g5 : (s.toList == [100, 105, 118]) = false := by rw [hs]; rfl
  have g6 : (s.toList == [109, 111, 100]) = false := by rw [hs]; rfl
  have g7 : (s.toList == [94]) = false := by rw [hs]; rfl
  have g8 : (s.toList == [103, 99, 100]) = true := by rw [hs]; rfl
  clear hs
  go_enter Try.func22, Try.ntmps22
  go_wp2_with fail
  refine (rGcd_any x y _ hx hx' hy hy').mono ?_
  rintro e w1 ⟨rfl, h⟩
  have H := Lib.hid h
  clear h
  go_wp2
  go_ret2
  exact ⟨rfl, H.out⟩
set_option maxHeartbeats 1000000 in
theorem dbl_Quo (s : ByteArray) (x y : Int) (w : World) (hx : -9223372036854775808 ≤ x) (hx' : x ≤ 9223372036854775807) (hy : -9223372036854775808 ≤ y) (hy' : y ≤ 9223372036854775807) (h : ¬ y = 0) (hs : s.toList = [47, 47]) :
    Calls Try.prog 22 #[.string s, .int .i64 x, .int .i64 y] w fun r w' => r = .returned (.tuple #[.int .i64 (fitV (x.tdiv y)), .int .i64 (fitE (x.tdiv y))]) ∧ Below w.heap.size w w' := by
  have g0 : (s.toList == [43]) = false := by rw [hs]; rfl
  have g1 : (s.toList == [45]) = false := by rw [hs]; rfl
  have g2 : (s.toList == [42]) = false := by rw [hs]; rfl
  have g3 : (s.toList == [47, 47]) = true := by rw [hs]; rfl
  clear hs
  go_enter Try.func22, Try.ntmps22
  go_wp2_with fail
  refine (rQuo_any x y _ hx hx' hy hy' h).mono ?_
  rintro e w1 ⟨rfl, h⟩
  have H := Lib.hid h
  clear h
  go_wp2
  go_ret2
  exact ⟨rfl, H.out⟩
set_option maxHeartbeats 1000000 in
theorem dbl_Quo_z (s : ByteArray) (x : Int) (w : World)  (hs : s.toList = [47, 47]) :
    Calls Try.prog 22 #[.string s, .int .i64 x, .int .i64 0] w fun r w' => r = .returned (.tuple #[.int .i64 (0), .int .i64 (11)]) ∧ Below w.heap.size w w' := by
  have g0 : (s.toList == [43]) = false := by rw [hs]; rfl
  have g1 : (s.toList == [45]) = false := by rw [hs]; rfl
  have g2 : (s.toList == [42]) = false := by rw [hs]; rfl
  have g3 : (s.toList == [47, 47]) = true := by rw [hs]; rfl
  clear hs
  go_enter Try.func22, Try.ntmps22
  go_wp2_with fail
  refine (rQuo_zero x _).mono ?_
  rintro e w1 ⟨rfl, h⟩
  have H := Lib.hid h
  clear h
  go_wp2
  go_ret2
  exact ⟨rfl, H.out⟩
set_option maxHeartbeats 1000000 in
theorem dbl_Rem (s : ByteArray) (x y : Int) (w : World) (hx : -9223372036854775808 ≤ x) (hx' : x ≤ 9223372036854775807) (hy : -9223372036854775808 ≤ y) (hy' : y ≤ 9223372036854775807) (h : ¬ y = 0) (hs : s.toList = [114, 101, 109]) :
    Calls Try.prog 22 #[.string s, .int .i64 x, .int .i64 y] w fun r w' => r = .returned (.tuple #[.int .i64 (x.tmod y), .int .i64 (0)]) ∧ Below w.heap.size w w' := by
  have g0 : (s.toList == [43]) = false := by rw [hs]; rfl
  have g1 : (s.toList == [45]) = false := by rw [hs]; rfl
  have g2 : (s.toList == [42]) = false := by rw [hs]; rfl
  have g3 : (s.toList == [47, 47]) = false := by rw [hs]; rfl
  have g4 : (s.toList == [114, 101, 109]) = true := by rw [hs]; rfl
  clear hs
  go_enter Try.func22, Try.ntmps22
  go_wp2_with fail
  refine (rRem_any x y _ hx hx' hy hy' h).mono ?_
  rintro e w1 ⟨rfl, h⟩
  have H := Lib.hid h
  clear h
  go_wp2
  go_ret2
  exact ⟨rfl, H.out⟩
set_option maxHeartbeats 1000000 in
theorem dbl_Rem_z (s : ByteArray) (x : Int) (w : World)  (hs : s.toList = [114, 101, 109]) :
    Calls Try.prog 22 #[.string s, .int .i64 x, .int .i64 0] w fun r w' => r = .returned (.tuple #[.int .i64 (0), .int .i64 (11)]) ∧ Below w.heap.size w w' := by
  have g0 : (s.toList == [43]) = false := by rw [hs]; rfl
  have g1 : (s.toList == [45]) = false := by rw [hs]; rfl
  have g2 : (s.toList == [42]) = false := by rw [hs]; rfl
  have g3 : (s.toList == [47, 47]) = false := by rw [hs]; rfl
  have g4 : (s.toList == [114, 101, 109]) = true := by rw [hs]; rfl
  clear hs
  go_enter Try.func22, Try.ntmps22
  go_wp2_with fail
  refine (rRem_zero x _).mono ?_
  rintro e w1 ⟨rfl, h⟩
  have H := Lib.hid h
  clear h
  go_wp2
  go_ret2
  exact ⟨rfl, H.out⟩
set_option maxHeartbeats 1000000 in
theorem dbl_Div (s : ByteArray) (x y : Int) (w : World) (hx : -9223372036854775808 ≤ x) (hx' : x ≤ 9223372036854775807) (hy : -9223372036854775808 ≤ y) (hy' : y ≤ 9223372036854775807) (h : ¬ y = 0) (hs : s.toList = [100, 105, 118]) :
    Calls Try.prog 22 #[.string s, .int .i64 x, .int .i64 y] w fun r w' => r = .returned (.tuple #[.int .i64 (fitV (divS x y)), .int .i64 (fitE (divS x y))]) ∧ Below w.heap.size w w' := by
  have g0 : (s.toList == [43]) = false := by rw [hs]; rfl
  have g1 : (s.toList == [45]) = false := by rw [hs]; rfl
  have g2 : (s.toList == [42]) = false := by rw [hs]; rfl
  have g3 : (s.toList == [47, 47]) = false := by rw [hs]; rfl
  have g4 : (s.toList == [114, 101, 109]) = false := by rw [hs]; rfl
  have g5 : (s.toList == [100, 105, 118]) = true := by rw [hs]; rfl
  clear hs
  go_enter Try.func22, Try.ntmps22
  go_wp2_with fail
  refine (rDiv_any x y _ hx hx' hy hy' h).mono ?_
  rintro e w1 ⟨rfl, h⟩
  have H := Lib.hid h
  clear h
  go_wp2
  go_ret2
  exact ⟨rfl, H.out⟩
set_option maxHeartbeats 1000000 in
theorem dbl_Div_z (s : ByteArray) (x : Int) (w : World)  (hs : s.toList = [100, 105, 118]) :
    Calls Try.prog 22 #[.string s, .int .i64 x, .int .i64 0] w fun r w' => r = .returned (.tuple #[.int .i64 (0), .int .i64 (11)]) ∧ Below w.heap.size w w' := by
  have g0 : (s.toList == [43]) = false := by rw [hs]; rfl
  have g1 : (s.toList == [45]) = false := by rw [hs]; rfl
  have g2 : (s.toList == [42]) = false := by rw [hs]; rfl
  have g3 : (s.toList == [47, 47]) = false := by rw [hs]; rfl
  have g4 : (s.toList == [114, 101, 109]) = false := by rw [hs]; rfl
  have g5 : (s.toList == [100, 105, 118]) = true := by rw [hs]; rfl
  clear hs
  go_enter Try.func22, Try.ntmps22
  go_wp2_with fail
  refine (rDiv_zero x _).mono ?_
  rintro e w1 ⟨rfl, h⟩
  have H := Lib.hid h
  clear h
  go_wp2
  go_ret2
  exact ⟨rfl, H.out⟩
set_option maxHeartbeats 1000000 in
theorem dbl_Mod (s : ByteArray) (x y : Int) (w : World) (hx : -9223372036854775808 ≤ x) (hx' : x ≤ 9223372036854775807) (hy : -9223372036854775808 ≤ y) (hy' : y ≤ 9223372036854775807) (h : ¬ y = 0) (hs : s.toList = [109, 111, 100]) :
    Calls Try.prog 22 #[.string s, .int .i64 x, .int .i64 y] w fun r w' => r = .returned (.tuple #[.int .i64 (modS x y), .int .i64 (0)]) ∧ Below w.heap.size w w' := by
  have g0 : (s.toList == [43]) = false := by rw [hs]; rfl
  have g1 : (s.toList == [45]) = false := by rw [hs]; rfl
  have g2 : (s.toList == [42]) = false := by rw [hs]; rfl
  have g3 : (s.toList == [47, 47]) = false := by rw [hs]; rfl
  have g4 : (s.toList == [114, 101, 109]) = false := by rw [hs]; rfl
  have g5 : (s.toList == [100, 105, 118]) = false := by rw [hs]; rfl
  have g6 : (s.toList == [109, 111, 100]) = true := by rw [hs]; rfl
  clear hs
  go_enter Try.func22, Try.ntmps22
  go_wp2_with fail
  refine (rMod_any x y _ hx hx' hy hy' h).mono ?_
  rintro e w1 ⟨rfl, h⟩
  have H := Lib.hid h
  clear h
  go_wp2
  go_ret2
  exact ⟨rfl, H.out⟩
set_option maxHeartbeats 1000000 in
theorem dbl_Mod_z (s : ByteArray) (x : Int) (w : World)  (hs : s.toList = [109, 111, 100]) :
    Calls Try.prog 22 #[.string s, .int .i64 x, .int .i64 0] w fun r w' => r = .returned (.tuple #[.int .i64 (0), .int .i64 (11)]) ∧ Below w.heap.size w w' := by
  have g0 : (s.toList == [43]) = false := by rw [hs]; rfl
  have g1 : (s.toList == [45]) = false := by rw [hs]; rfl
  have g2 : (s.toList == [42]) = false := by rw [hs]; rfl
  have g3 : (s.toList == [47, 47]) = false := by rw [hs]; rfl
  have g4 : (s.toList == [114, 101, 109]) = false := by rw [hs]; rfl
  have g5 : (s.toList == [100, 105, 118]) = false := by rw [hs]; rfl
  have g6 : (s.toList == [109, 111, 100]) = true := by rw [hs]; rfl
  clear hs
  go_enter Try.func22, Try.ntmps22
  go_wp2_with fail
  refine (rMod_zero x _).mono ?_
  rintro e w1 ⟨rfl, h⟩
  have H := Lib.hid h
  clear h
  go_wp2
  go_ret2
  exact ⟨rfl, H.out⟩
set_option maxHeartbeats 1000000 in
theorem dbl_Pow (s : ByteArray) (x y : Int) (w : World) (hx : -9223372036854775808 ≤ x) (hx' : x ≤ 9223372036854775807) (hy' : y ≤ 9223372036854775807) (h : 0 ≤ y) (hs : s.toList = [94]) :
    Calls Try.prog 22 #[.string s, .int .i64 x, .int .i64 y] w fun r w' => r = .returned (.tuple #[.int .i64 (fitV (x ^ y.toNat)), .int .i64 (fitE (x ^ y.toNat))]) ∧ Below w.heap.size w w' := by
  have g0 : (s.toList == [43]) = false := by rw [hs]; rfl
  have g1 : (s.toList == [45]) = false := by rw [hs]; rfl
  have g2 : (s.toList == [42]) = false := by rw [hs]; rfl
  have g3 : (s.toList == [47, 47]) = false := by rw [hs]; rfl
  have g4 : (s.toList == [114, 101, 109]) = false := by rw [hs]; rfl
  have g5 : (s.toList == [100, 105, 118]) = false := by rw [hs]; rfl
  have g6 : (s.toList == [109, 111, 100]) = false := by rw [hs]; rfl
  have g7 : (s.toList == [94]) = true := by rw [hs]; rfl
  clear hs
  go_enter Try.func22, Try.ntmps22
  go_wp2_with fail
  refine (rPow_any x y _ h hy' hx hx').mono ?_
  rintro e w1 ⟨rfl, h⟩
  have H := Lib.hid h
  clear h
  go_wp2
  go_ret2
  exact ⟨rfl, H.out⟩
set_option maxHeartbeats 1000000 in
theorem dbl_Pow_n (s : ByteArray) (x y : Int) (w : World) (h : y < 0) (hs : s.toList = [94]) :
    Calls Try.prog 22 #[.string s, .int .i64 x, .int .i64 y] w fun r w' => r = .returned (.tuple #[.int .i64 (0), .int .i64 (1)]) ∧ Below w.heap.size w w' := by
  have g0 : (s.toList == [43]) = false := by rw [hs]; rfl
  have g1 : (s.toList == [45]) = false := by rw [hs]; rfl
  have g2 : (s.toList == [42]) = false := by rw [hs]; rfl
  have g3 : (s.toList == [47, 47]) = false := by rw [hs]; rfl
  have g4 : (s.toList == [114, 101, 109]) = false := by rw [hs]; rfl
  have g5 : (s.toList == [100, 105, 118]) = false := by rw [hs]; rfl
  have g6 : (s.toList == [109, 111, 100]) = false := by rw [hs]; rfl
  have g7 : (s.toList == [94]) = true := by rw [hs]; rfl
  clear hs
  go_enter Try.func22, Try.ntmps22
  go_wp2_with fail
  refine (rPow_neg x y _ h).mono ?_
  rintro e w1 ⟨rfl, h⟩
  have H := Lib.hid h
  clear h
  go_wp2
  go_ret2
  exact ⟨rfl, H.out⟩
set_option maxHeartbeats 1000000 in
theorem dbl_Shl (s : ByteArray) (x y : Int) (w : World) (hx : -9223372036854775808 ≤ x) (hx' : x ≤ 9223372036854775807) (hy' : y ≤ 9223372036854775807) (h : 0 ≤ y) (hs : s.toList = [60, 60]) :
    Calls Try.prog 22 #[.string s, .int .i64 x, .int .i64 y] w fun r w' => r = .returned (.tuple #[.int .i64 (fitV (x * 2 ^ (min y.toNat 70))), .int .i64 (fitE (x * 2 ^ (min y.toNat 70)))]) ∧ Below w.heap.size w w' := by
  have g0 : (s.toList == [43]) = false := by rw [hs]; rfl
  have g1 : (s.toList == [45]) = false := by rw [hs]; rfl
  have g2 : (s.toList == [42]) = false := by rw [hs]; rfl
  have g3 : (s.toList == [47, 47]) = false := by rw [hs]; rfl
  have g4 : (s.toList == [114, 101, 109]) = false := by rw [hs]; rfl
  have g5 : (s.toList == [100, 105, 118]) = false := by rw [hs]; rfl
  have g6 : (s.toList == [109, 111, 100]) = false := by rw [hs]; rfl
  have g7 : (s.toList == [94]) = false := by rw [hs]; rfl
  have g8 : (s.toList == [103, 99, 100]) = false := by rw [hs]; rfl
  have g9 : (s.toList == [60, 60]) = true := by rw [hs]; rfl
  clear hs
  go_enter Try.func22, Try.ntmps22
  go_wp2_with fail
  refine (rShl_any x y _ h hy' hx hx').mono ?_
  rintro e w1 ⟨rfl, h⟩
  have H := Lib.hid h
  clear h
  go_wp2
  go_ret2
  exact ⟨rfl, H.out⟩
set_option maxHeartbeats 1000000 in
theorem dbl_Shl_n (s : ByteArray) (x y : Int) (w : World) (h : y < 0) (hs : s.toList = [60, 60]) :
    Calls Try.prog 22 #[.string s, .int .i64 x, .int .i64 y] w fun r w' => r = .returned (.tuple #[.int .i64 (0), .int .i64 (1)]) ∧ Below w.heap.size w w' := by
  have g0 : (s.toList == [43]) = false := by rw [hs]; rfl
  have g1 : (s.toList == [45]) = false := by rw [hs]; rfl
  have g2 : (s.toList == [42]) = false := by rw [hs]; rfl
  have g3 : (s.toList == [47, 47]) = false := by rw [hs]; rfl
  have g4 : (s.toList == [114, 101, 109]) = false := by rw [hs]; rfl
  have g5 : (s.toList == [100, 105, 118]) = false := by rw [hs]; rfl
  have g6 : (s.toList == [109, 111, 100]) = false := by rw [hs]; rfl
  have g7 : (s.toList == [94]) = false := by rw [hs]; rfl
  have g8 : (s.toList == [103, 99, 100]) = false := by rw [hs]; rfl
  have g9 : (s.toList == [60, 60]) = true := by rw [hs]; rfl
  clear hs
  go_enter Try.func22, Try.ntmps22
  go_wp2_with fail
  refine (rShl_neg x y _ h).mono ?_
  rintro e w1 ⟨rfl, h⟩
  have H := Lib.hid h
  clear h
  go_wp2
  go_ret2
  exact ⟨rfl, H.out⟩
set_option maxHeartbeats 1000000 in
theorem dbl_Shr (s : ByteArray) (x y : Int) (w : World) (hx : -9223372036854775808 ≤ x) (hx' : x ≤ 9223372036854775807) (hy' : y ≤ 9223372036854775807) (h : 0 ≤ y) (hs : s.toList = [62, 62]) :
    Calls Try.prog 22 #[.string s, .int .i64 x, .int .i64 y] w fun r w' => r = .returned (.tuple #[.int .i64 (shrS x y), .int .i64 (0)]) ∧ Below w.heap.size w w' := by
  have g0 : (s.toList == [43]) = false := by rw [hs]; rfl
  have g1 : (s.toList == [45]) = false := by rw [hs]; rfl
  have g2 : (s.toList == [42]) = false := by rw [hs]; rfl
  have g3 : (s.toList == [47, 47]) = false := by rw [hs]; rfl
  have g4 : (s.toList == [114, 101, 109]) = false := by rw [hs]; rfl
  have g5 : (s.toList == [100, 105, 118]) = false := by rw [hs]; rfl
  have g6 : (s.toList == [109, 111, 100]) = false := by rw [hs]; rfl
  have g7 : (s.toList == [94]) = false := by rw [hs]; rfl
  have g8 : (s.toList == [103, 99, 100]) = false := by rw [hs]; rfl
  have g9 : (s.toList == [60, 60]) = false := by rw [hs]; rfl
  have g10 : (s.toList == [62, 62]) = true := by rw [hs]; rfl
  clear hs
  go_enter Try.func22, Try.ntmps22
  go_wp2_with fail
  refine (rShr_any x y _ h hy' hx hx').mono ?_
  rintro e w1 ⟨rfl, h⟩
  have H := Lib.hid h
  clear h
  go_wp2
  go_ret2
  exact ⟨rfl, H.out⟩
set_option maxHeartbeats 1000000 in
theorem dbl_Shr_n (s : ByteArray) (x y : Int) (w : World) (h : y < 0) (hs : s.toList = [62, 62]) :
    Calls Try.prog 22 #[.string s, .int .i64 x, .int .i64 y] w fun r w' => r = .returned (.tuple #[.int .i64 (0), .int .i64 (1)]) ∧ Below w.heap.size w w' := by
  have g0 : (s.toList == [43]) = false := by rw [hs]; rfl
  have g1 : (s.toList == [45]) = false := by rw [hs]; rfl
  have g2 : (s.toList == [42]) = false := by rw [hs]; rfl
  have g3 : (s.toList == [47, 47]) = false := by rw [hs]; rfl
  have g4 : (s.toList == [114, 101, 109]) = false := by rw [hs]; rfl
  have g5 : (s.toList == [100, 105, 118]) = false := by rw [hs]; rfl
  have g6 : (s.toList == [109, 111, 100]) = false := by rw [hs]; rfl
  have g7 : (s.toList == [94]) = false := by rw [hs]; rfl
  have g8 : (s.toList == [103, 99, 100]) = false := by rw [hs]; rfl
  have g9 : (s.toList == [60, 60]) = false := by rw [hs]; rfl
  have g10 : (s.toList == [62, 62]) = true := by rw [hs]; rfl
  clear hs
  go_enter Try.func22, Try.ntmps22
  go_wp2_with fail
  refine (rShr_neg x y _ h).mono ?_
  rintro e w1 ⟨rfl, h⟩
  have H := Lib.hid h
  clear h
  go_wp2
  go_ret2
  exact ⟨rfl, H.out⟩
set_option maxHeartbeats 1000000 in
theorem dbl_min (s : ByteArray) (x y : Int) (w : World)  (hs : s.toList = [109, 105, 110]) :
    Calls Try.prog 22 #[.string s, .int .i64 x, .int .i64 y] w fun r w' => r = .returned (.tuple #[.int .i64 (min x y), .int .i64 (0)]) ∧ Below w.heap.size w w' := by
  have g0 : (s.toList == [43]) = false := by rw [hs]; rfl
  have g1 : (s.toList == [45]) = false := by rw [hs]; rfl
  have g2 : (s.toList == [42]) = false := by rw [hs]; rfl
  have g3 : (s.toList == [47, 47]) = false := by rw [hs]; rfl
  have g4 : (s.toList == [114, 101, 109]) = false := by rw [hs]; rfl
  have g5 : (s.toList == [100, 105, 118]) = false := by rw [hs]; rfl
  have g6 : (s.toList == [109, 111, 100]) = false := by rw [hs]; rfl
  have g7 : (s.toList == [94]) = false := by rw [hs]; rfl
  have g8 : (s.toList == [103, 99, 100]) = false := by rw [hs]; rfl
  have g9 : (s.toList == [60, 60]) = false := by rw [hs]; rfl
  have g10 : (s.toList == [62, 62]) = false := by rw [hs]; rfl
  have g11 : (s.toList == [109, 105, 110]) = true := by rw [hs]; rfl
  clear hs
  go_enter Try.func22, Try.ntmps22
  go_wp2
  go_ret2
  exact ⟨rfl, Below.refl _ _⟩
set_option maxHeartbeats 1000000 in
theorem dbl_max (s : ByteArray) (x y : Int) (w : World)  (hs : s.toList = [109, 97, 120]) :
    Calls Try.prog 22 #[.string s, .int .i64 x, .int .i64 y] w fun r w' => r = .returned (.tuple #[.int .i64 (max x y), .int .i64 (0)]) ∧ Below w.heap.size w w' := by
  have g0 : (s.toList == [43]) = false := by rw [hs]; rfl
  have g1 : (s.toList == [45]) = false := by rw [hs]; rfl
  have g2 : (s.toList == [42]) = false := by rw [hs]; rfl
  have g3 : (s.toList == [47, 47]) = false := by rw [hs]; rfl
  have g4 : (s.toList == [114, 101, 109]) = false := by rw [hs]; rfl
  have g5 : (s.toList == [100, 105, 118]) = false := by rw [hs]; rfl
  have g6 : (s.toList == [109, 111, 100]) = false := by rw [hs]; rfl
  have g7 : (s.toList == [94]) = false := by rw [hs]; rfl
  have g8 : (s.toList == [103, 99, 100]) = false := by rw [hs]; rfl
  have g9 : (s.toList == [60, 60]) = false := by rw [hs]; rfl
  have g10 : (s.toList == [62, 62]) = false := by rw [hs]; rfl
  have g11 : (s.toList == [109, 105, 110]) = false := by rw [hs]; rfl
  clear hs
  go_enter Try.func22, Try.ntmps22
  go_wp2
  go_ret2
  exact ⟨rfl, Below.refl _ _⟩

theorem isTwo_yes {l : List UInt8} (h : isTwo l = true) : l = [43] ∨ l = [45] ∨ l = [42] ∨ l = [47, 47] ∨ l = [114, 101, 109] ∨ l = [100, 105, 118] ∨ l = [109, 111, 100] ∨ l = [94] ∨ l = [103, 99, 100] ∨ l = [60, 60] ∨ l = [62, 62] ∨ l = [109, 105, 110] ∨ l = [109, 97, 120] := by
  unfold isTwo at h
  simpa [or_assoc] using h
theorem double_any (s : ByteArray) (x y : Int) (w : World) (hx : -9223372036854775808 ≤ x) (hx' : x ≤ 9223372036854775807) (hy : -9223372036854775808 ≤ y) (hy' : y ≤ 9223372036854775807) (hs : isTwo s.toList = true) :
    Calls Try.prog 22 #[.string s, .int .i64 x, .int .i64 y] w fun r w' => r = .returned (.tuple #[.int .i64 (num2 s.toList x y).1, .int .i64 (num2 s.toList x y).2]) ∧ Below w.heap.size w w' := by
  rcases isTwo_yes hs with h | h | h | h | h | h | h | h | h | h | h | h | h
  · have := dbl_Add s x y w hx hx' hy hy' h
    rw [h]; exact this
  · have := dbl_Sub s x y w hx hx' hy hy' h
    rw [h]; exact this
  · have := dbl_Mul s x y w hx hx' hy hy' h
    rw [h]; exact this
  · by_cases hz : y = 0
    · subst hz
      have := dbl_Quo_z s x w h
      rw [h]; exact this
    · have := dbl_Quo s x y w hx hx' hy hy' hz h
      have e : num2 [47, 47] x y = (fitV (x.tdiv y), fitE (x.tdiv y)) := by simp [num2, hz]
      rw [h, e]; exact this
  · by_cases hz : y = 0
    · subst hz
      have := dbl_Rem_z s x w h
      rw [h]; exact this
    · have := dbl_Rem s x y w hx hx' hy hy' hz h
      have e : num2 [114, 101, 109] x y = (x.tmod y, 0) := by simp [num2, hz]
      rw [h, e]; exact this
  · by_cases hz : y = 0
    · subst hz
      have := dbl_Div_z s x w h
      rw [h]; exact this
    · have := dbl_Div s x y w hx hx' hy hy' hz h
      have e : num2 [100, 105, 118] x y = (fitV (divS x y), fitE (divS x y)) := by simp [num2, hz]
      rw [h, e]; exact this
  · by_cases hz : y = 0
    · subst hz
      have := dbl_Mod_z s x w h
      rw [h]; exact this
    · have := dbl_Mod s x y w hx hx' hy hy' hz h
      have e : num2 [109, 111, 100] x y = (modS x y, 0) := by simp [num2, hz]
      rw [h, e]; exact this
  · by_cases hz : y < 0
    · have := dbl_Pow_n s x y w hz h
      have e : num2 [94] x y = (0, 1) := by simp [num2, hz]
      rw [h, e]; exact this
    · have := dbl_Pow s x y w hx hx' hy' (by omega) h
      have e : num2 [94] x y = (fitV (x ^ y.toNat), fitE (x ^ y.toNat)) := by simp [num2, hz]
      rw [h, e]; exact this
  · have := dbl_Gcd s x y w hx hx' hy hy' h
    rw [h]; exact this
  · by_cases hz : y < 0
    · have := dbl_Shl_n s x y w hz h
      have e : num2 [60, 60] x y = (0, 1) := by simp [num2, hz]
      rw [h, e]; exact this
    · have := dbl_Shl s x y w hx hx' hy' (by omega) h
      have e : num2 [60, 60] x y = (fitV (x * 2 ^ (min y.toNat 70)), fitE (x * 2 ^ (min y.toNat 70))) := by simp [num2, hz]
      rw [h, e]; exact this
  · by_cases hz : y < 0
    · have := dbl_Shr_n s x y w hz h
      have e : num2 [62, 62] x y = (0, 1) := by simp [num2, hz]
      rw [h, e]; exact this
    · have := dbl_Shr s x y w hx hx' hy' (by omega) h
      have e : num2 [62, 62] x y = (shrS x y, 0) := by simp [num2, hz]
      rw [h, e]; exact this
  · have := dbl_min s x y w h
    rw [h]; exact this
  · have := dbl_max s x y w h
    rw [h]; exact this

set_option maxHeartbeats 1000000 in
theorem sgl_plus (s : ByteArray) (x : Int) (w : World) (hs : s.toList = [43]) :
    Calls Try.prog 20 #[.string s, .int .i64 x] w fun r w' => r = .returned (.tuple #[.int .i64 x, .int .i64 0]) ∧ Below w.heap.size w w' := by
  have g1 : (s.toList == [45]) = false := by rw [hs]; rfl
  have g2 : (s.toList == [97, 98, 115]) = false := by rw [hs]; rfl
  have g3 : (s.toList == [115, 105, 103, 110]) = false := by rw [hs]; rfl
  clear hs
  go_enter Try.func20, Try.ntmps20
  go_wp2
  go_ret2
  exact ⟨rfl, Below.refl _ _⟩
set_option maxHeartbeats 1000000 in
theorem sgl_neg (s : ByteArray) (x : Int) (w : World) (hx : -9223372036854775808 ≤ x) (hx' : x ≤ 9223372036854775807) (hs : s.toList = [45]) :
    Calls Try.prog 20 #[.string s, .int .i64 x] w fun r w' => r = .returned (.tuple #[.int .i64 (fitV (-x)), .int .i64 (fitE (-x))]) ∧ Below w.heap.size w w' := by
  have g1 : (s.toList == [45]) = true := by rw [hs]; rfl
  clear hs
  go_enter Try.func20, Try.ntmps20
  go_wp2_with fail
  refine (rNeg_any x _ hx hx').mono ?_
  rintro e w1 ⟨rfl, h⟩
  have H := Lib.hid h
  clear h
  go_wp2
  go_ret2
  exact ⟨rfl, H.out⟩
set_option maxHeartbeats 1000000 in
theorem sgl_abs (s : ByteArray) (x : Int) (w : World) (hx : -9223372036854775808 ≤ x) (hx' : x ≤ 9223372036854775807) (hs : s.toList = [97, 98, 115]) :
    Calls Try.prog 20 #[.string s, .int .i64 x] w fun r w' => r = .returned (.tuple #[.int .i64 (fitV (x.natAbs : Int)), .int .i64 (fitE (x.natAbs : Int))]) ∧ Below w.heap.size w w' := by
  have g1 : (s.toList == [45]) = false := by rw [hs]; rfl
  have g2 : (s.toList == [97, 98, 115]) = true := by rw [hs]; rfl
  clear hs
  go_enter Try.func20, Try.ntmps20
  go_wp2_with fail
  refine (rAbs_any x _ hx hx').mono ?_
  rintro e w1 ⟨rfl, h⟩
  have H := Lib.hid h
  clear h
  go_wp2
  go_ret2
  exact ⟨rfl, H.out⟩
set_option maxHeartbeats 1000000 in
theorem sgl_sign (s : ByteArray) (x : Int) (w : World) (hs : s.toList = [115, 105, 103, 110]) :
    Calls Try.prog 20 #[.string s, .int .i64 x] w fun r w' => r = .returned (.tuple #[.int .i64 (if x < 0 then -1 else if 0 < x then 1 else 0), .int .i64 0]) ∧ Below w.heap.size w w' := by
  have g1 : (s.toList == [45]) = false := by rw [hs]; rfl
  have g2 : (s.toList == [97, 98, 115]) = false := by rw [hs]; rfl
  have g3 : (s.toList == [115, 105, 103, 110]) = true := by rw [hs]; rfl
  clear hs
  go_enter Try.func20, Try.ntmps20
  go_wp2
  all_goals
    go_ret2
    exact ⟨ret2 (vint (by omega)) rfl, Below.refl _ _⟩
theorem single_any (s : ByteArray) (x : Int) (w : World) (hx : -9223372036854775808 ≤ x) (hx' : x ≤ 9223372036854775807) (hs : isOne s.toList = true) :
    Calls Try.prog 20 #[.string s, .int .i64 x] w fun r w' => r = .returned (.tuple #[.int .i64 (num1 s.toList x).1, .int .i64 (num1 s.toList x).2]) ∧ Below w.heap.size w w' := by
  rcases isOne_yes hs with h | h | h | h
  · have := sgl_plus s x w h; rw [h]; exact this
  · have := sgl_neg s x w hx hx' h; rw [h]; exact this
  · have := sgl_abs s x w hx hx' h; rw [h]; exact this
  · have := sgl_sign s x w h; rw [h]; exact this
end Go.Proofs.Ytifjdfdjojkagaa
