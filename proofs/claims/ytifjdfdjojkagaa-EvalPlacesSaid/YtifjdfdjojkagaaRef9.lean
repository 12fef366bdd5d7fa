/- The walks through coneyref01.Mul, and through the law NumTimes. -/
import Derived.Test.YtifjdfdjojkagaaRef8
namespace Go.Proofs.Ytifjdfdjojkagaa
open Go.RowKit Dg

set_option maxHeartbeats 1000000 in
theorem rMul_any (a b : Int) (w : World) (ha : -9223372036854775808 ≤ a) (ha' : a ≤ 9223372036854775807) (hb : -9223372036854775808 ≤ b) (hb' : b ≤ 9223372036854775807) :
    Calls Try.prog 32 #[.int .i64 a, .int .i64 b] w fun e w' => e = .returned (.tuple #[.int .i64 (fitV (a * b)), .int .i64 (fitE (a * b))]) ∧ Below w.heap.size w w' := by
  go_enter Try.func32, Try.ntmps32
  go_wp2_with fail
  refine (of_any a _ ha ha').mono ?_
  rintro e w1 ⟨⟨A, n, c, hn, rfl, hA⟩, h1⟩
  go_wp2_with fail
  refine (of_any b _ hb hb').mono ?_
  rintro e w2 ⟨⟨A', m, c', hm, rfl, hA'⟩, h2⟩
  have hs2 := h2.size
  go_wp2_with fail
  refine (times_any _ _ A A' n c m c' _ _ _ _ (by omega) (by omega) (Nat.le_refl _) ((hA.below h2).more hs2) hA').mono ?_
  rintro e w3 ⟨⟨R, k, r, hk, rfl, hR⟩, h3⟩
  go_wp2_with fail
  refine (fit_any _ R k r _ _ _ (by omega) (Nat.le_refl _) hR).mono ?_
  rintro e w4 ⟨rfl, h4⟩
  have hK : sg (decide (a < 0) != decide (b < 0)) ((a.natAbs * b.natAbs : Nat) : Int) = a * b := by rw [Int.natCast_mul, sg_mul, sg_abs, sg_abs]
  have HK := Lib.hid hK
  have hs1 := h1.size
  have hs3 := h3.size
  have HB := Lib.hid (((h1.trans (h2.mono hs1)).trans (h3.mono (by omega))).trans (h4.mono (by omega)))
  clear hK h1 h2 h3 h4 hA hA' hR
  go_wp2
  go_ret2
  exact ⟨ret2 (vint (congrArg fitV HK.out)) (vint (congrArg fitE HK.out)), HB.out⟩
end Go.Proofs.Ytifjdfdjojkagaa
