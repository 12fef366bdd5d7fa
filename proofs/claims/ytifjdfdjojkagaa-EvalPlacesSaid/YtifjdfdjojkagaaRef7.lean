/- The walks through coneyref01: Add, Sub, Neg, Abs. -/
import Derived.Test.YtifjdfdjojkagaaRef6
namespace Go.Proofs.Ytifjdfdjojkagaa
open Go.RowKit Dg

set_option maxHeartbeats 1000000 in
theorem rAdd_any (a b : Int) (w : World) (ha : -9223372036854775808 ≤ a) (ha' : a ≤ 9223372036854775807) (hb : -9223372036854775808 ≤ b) (hb' : b ≤ 9223372036854775807) :
    Calls Try.prog 30 #[.int .i64 a, .int .i64 b] w fun e w' => e = .returned (.tuple #[.int .i64 (fitV (a + b)), .int .i64 (fitE (a + b))]) ∧ Below w.heap.size w w' := by
  go_enter Try.func30, Try.ntmps30
  go_wp2_with fail
  refine (of_any a _ ha ha').mono ?_
  rintro e w1 ⟨⟨A, n, c, hn, rfl, hA⟩, h1⟩
  go_wp2_with fail
  refine (of_any b _ hb hb').mono ?_
  rintro e w2 ⟨⟨A', m, c', hm, rfl, hA'⟩, h2⟩
  have hs2 := h2.size
  go_wp2_with fail
  refine (sum_any _ _ A A' n c m c' _ _ _ _ (by omega) (by omega) (Nat.le_refl _) ((hA.below h2).more hs2) hA').mono ?_
  rintro e w3 ⟨⟨s, R, k, r, K, hk, rfl, hR, hK⟩, h3⟩
  go_wp2_with fail
  refine (fit_any s R k r _ K _ (by omega) (Nat.le_refl _) hR).mono ?_
  rintro e w4 ⟨rfl, h4⟩
  rw [sg_abs, sg_abs] at hK
  have HK := Lib.hid hK
  have hs1 := h1.size
  have hs3 := h3.size
  have HB := Lib.hid (((h1.trans (h2.mono hs1)).trans (h3.mono (by omega))).trans (h4.mono (by omega)))
  clear hK h1 h2 h3 h4 hA hA' hR
  go_wp2
  go_ret2
  exact ⟨ret2 (vint (by rw [HK.out])) (vint (by rw [HK.out])), HB.out⟩

theorem sg_not (p : Bool) (x : Int) : sg (!p) x = -sg p x := by cases p <;> simp [sg]

set_option maxHeartbeats 1000000 in
theorem rSub_any (a b : Int) (w : World) (ha : -9223372036854775808 ≤ a) (ha' : a ≤ 9223372036854775807) (hb : -9223372036854775808 ≤ b) (hb' : b ≤ 9223372036854775807) :
    Calls Try.prog 31 #[.int .i64 a, .int .i64 b] w fun e w' => e = .returned (.tuple #[.int .i64 (fitV (a - b)), .int .i64 (fitE (a - b))]) ∧ Below w.heap.size w w' := by
  go_enter Try.func31, Try.ntmps31
  go_wp2_with fail
  refine (of_any a _ ha ha').mono ?_
  rintro e w1 ⟨⟨A, n, c, hn, rfl, hA⟩, h1⟩
  go_wp2_with fail
  refine (of_any b _ hb hb').mono ?_
  rintro e w2 ⟨⟨A', m, c', hm, rfl, hA'⟩, h2⟩
  have hs1 := h1.size
  have hs2 := h2.size
  go_wp2_with fail
  refine (minus_any _ A' m c' _ _ _ (Nat.le_refl _) hA').mono ?_
  rintro e w3 ⟨⟨rfl, hA2⟩, h3⟩
  have hs3 := h3.size
  go_wp2_with fail
  refine (sum_any _ _ A A' n c m c' _ _ _ _ (by omega) (by omega) (Nat.le_refl _) (((hA.below h2).below (h3.mono (by omega))).more (by omega)) hA2).mono ?_
  rintro e w4 ⟨⟨s, R, k, r, K, hk, rfl, hR, hK⟩, h4⟩
  have hs4 := h4.size
  go_wp2_with fail
  refine (fit_any s R k r _ K _ (by omega) (Nat.le_refl _) hR).mono ?_
  rintro e w5 ⟨rfl, h5⟩
  rw [sg_not, sg_abs, sg_abs] at hK
  have HK := Lib.hid (hK.trans (Int.sub_eq_add_neg (a := a) (b := b)).symm)
  have HB := Lib.hid ((((h1.trans (h2.mono hs1)).trans (h3.mono (by omega))).trans (h4.mono (by omega))).trans (h5.mono (by omega)))
  clear hK h1 h2 h3 h4 h5 hA hA' hR hA2
  go_wp2
  go_ret2
  exact ⟨ret2 (vint (by rw [HK.out])) (vint (by rw [HK.out])), HB.out⟩

set_option maxHeartbeats 1000000 in
theorem rNeg_any (a : Int) (w : World) (ha : -9223372036854775808 ≤ a) (ha' : a ≤ 9223372036854775807) :
    Calls Try.prog 28 #[.int .i64 a] w fun e w' => e = .returned (.tuple #[.int .i64 (fitV (-a)), .int .i64 (fitE (-a))]) ∧ Below w.heap.size w w' := by
  go_enter Try.func28, Try.ntmps28
  go_wp2_with fail
  refine (of_any a _ ha ha').mono ?_
  rintro e w1 ⟨⟨A, n, c, hn, rfl, hA⟩, h1⟩
  have hs1 := h1.size
  go_wp2_with fail
  refine (minus_any _ A n c _ _ _ (Nat.le_refl _) hA).mono ?_
  rintro e w2 ⟨⟨rfl, hA2⟩, h2⟩
  have hs2 := h2.size
  go_wp2_with fail
  refine (fit_any _ A n c _ _ _ (by omega) (Nat.le_refl _) hA2).mono ?_
  rintro e w3 ⟨rfl, h3⟩
  have hK : sg (!decide (a < 0)) a.natAbs = -a := by rw [sg_not, sg_abs]
  have HK := Lib.hid hK
  have HB := Lib.hid ((h1.trans (h2.mono hs1)).trans (h3.mono (by omega)))
  clear hK h1 h2 h3 hA hA2
  go_wp2
  go_ret2
  exact ⟨ret2 (vint (by rw [HK.out])) (vint (by rw [HK.out])), HB.out⟩

theorem fld_wide1 (x : Bool) (A : Option Addr) (n c : Nat) (W : World) : (Instr.field 69 (.agg #[.bool x, .slice A n c]) 1).run Try.prog W = .ok (.slice A n c) W := by kernel_rfl
theorem fld_wide0 (x : Bool) (A : Option Addr) (n c : Nat) (W : World) : (Instr.field 69 (.agg #[.bool x, .slice A n c]) 0).run Try.prog W = .ok (.bool x) W := by kernel_rfl

set_option maxHeartbeats 1000000 in
theorem rAbs_any (a : Int) (w : World) (ha : -9223372036854775808 ≤ a) (ha' : a ≤ 9223372036854775807) :
    Calls Try.prog 29 #[.int .i64 a] w fun e w' => e = .returned (.tuple #[.int .i64 (fitV (a.natAbs : Int)), .int .i64 (fitE (a.natAbs : Int))]) ∧ Below w.heap.size w w' := by
  go_enter Try.func29, Try.ntmps29
  go_wp2_with fail
  refine (of_any a _ ha ha').mono ?_
  rintro e w1 ⟨⟨A, n, c, hn, rfl, hA⟩, h1⟩
  have hs1 := h1.size
  have hfl := fld_wide1 (decide (a < 0)) A n c w1
  go_wp2_with fail
  refine (fit_any _ A n c _ _ _ (by omega) (Nat.le_refl _) hA).mono ?_
  rintro e w3 ⟨rfl, h3⟩
  have HB := Lib.hid (h1.trans (h3.mono (by omega)))
  clear h1 h3 hA
  go_wp2
  go_ret2
  exact ⟨ret2 (vint (by rw [sgF])) (vint (by rw [sgF])), HB.out⟩
end Go.Proofs.Ytifjdfdjojkagaa
