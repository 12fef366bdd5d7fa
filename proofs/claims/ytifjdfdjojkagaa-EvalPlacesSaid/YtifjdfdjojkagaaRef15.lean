/- The walk through coneyref01.Gcd. -/
import Derived.Test.YtifjdfdjojkagaaRef14
namespace Go.Proofs.Ytifjdfdjojkagaa
open Go.RowKit Dg

theorem half_rem {x y : Nat} (hy : 0 < y) (h : y < x) : 2 * (x % y) ≤ x := by
  have h1 := Nat.div_add_mod x y
  have h2 := Nat.mod_lt x hy
  have h3 : 1 ≤ x / y := (Nat.le_div_iff_mul_le hy).2 (by omega)
  have h4 : y * 1 ≤ y * (x / y) := Nat.mul_le_mul_left _ h3
  omega

/-- How far Euclid's way can go: with each step the product halves. -/
def Eu (i x y : Nat) : Prop := x ≤ 2 ^ 63 ∧ y ≤ 2 ^ 63 ∧ (i = 0 ∨ ∃ j, i = j + 1 ∧ y < x ∧ x * y * 2 ^ j ≤ 2 ^ 126)
theorem Eu.lt {i x y : Nat} (h : Eu i x y) (hy : 0 < y) : i < 200 := by
  rcases h.2.2 with h0 | ⟨j, rfl, hlt, hb⟩
  · omega
  · rcases Nat.lt_or_ge j 199 with hj | hj
    · omega
    · exfalso
      have h1 : 1 ≤ x * y := Nat.mul_pos (by omega) hy
      have h2 : 2 ^ 199 ≤ 2 ^ j := Nat.pow_le_pow_right (by omega) hj
      have h3 : 1 * 2 ^ j ≤ x * y * 2 ^ j := Nat.mul_le_mul_right _ h1
      have h4 : (2 : Nat) ^ 126 < 2 ^ 199 := by decide
      omega
theorem Eu.step {i x y : Nat} (h : Eu i x y) (hy : 0 < y) : Eu (i + 1) y (x % y) := by
  have h2 := Nat.mod_lt x hy
  refine ⟨h.2.1, by have := h.2.1; omega, .inr ⟨i, rfl, h2, ?_⟩⟩
  rcases h.2.2 with rfl | ⟨j, rfl, hlt, hb⟩
  · have h3 : y * (x % y) ≤ 2 ^ 63 * 2 ^ 63 := Nat.mul_le_mul h.2.1 (by have := h.2.1; omega)
    have h4 : (2 : Nat) ^ 63 * 2 ^ 63 = 2 ^ 126 := by decide
    omega
  · have h3 := half_rem hy hlt
    have h4 : y * (x % y) * 2 ^ (j + 1) = y * (2 * (x % y)) * 2 ^ j := by
      rw [Nat.pow_succ]; simp only [Nat.mul_assoc, Nat.mul_comm]
    have h5 : y * (2 * (x % y)) * 2 ^ j ≤ y * x * 2 ^ j := Nat.mul_le_mul_right _ (Nat.mul_le_mul_left _ h3)
    rw [h4]
    rw [Nat.mul_comm y x] at h5
    omega

structure GcdRel (w : World) (G : Nat) (xv yv iv : Value) (wr : World) (i x y : Nat) : Prop where
  hi : iv = .int .i64 (i : Int)
  hx : ∃ A n c, n ≤ 1000 ∧ xv = .slice A n c ∧ Num wr wr.heap.size A n c x
  hy : ∃ A n c, n ≤ 1000 ∧ yv = .slice A n c ∧ Num wr wr.heap.size A n c y
  gcd : Nat.gcd x y = G
  eu : Eu i x y
  below : Below w.heap.size w wr

set_option maxHeartbeats 2000000 in
set_option maxRecDepth 100000 in
set_option maxRecDepth 100000 in
theorem rGcd_any (a b : Int) (w : World) (ha : -9223372036854775808 ≤ a) (ha' : a ≤ 9223372036854775807) (hb : -9223372036854775808 ≤ b) (hb' : b ≤ 9223372036854775807) :
    Calls Try.prog 38 #[.int .i64 a, .int .i64 b] w fun e w' => e = .returned (.tuple #[.int .i64 (fitV (Nat.gcd a.natAbs b.natAbs)), .int .i64 (fitE (Nat.gcd a.natAbs b.natAbs))]) ∧ Below w.heap.size w w' := by
  go_enter Try.func38, Try.ntmps38
  go_wp2_with fail
  refine (of_any a _ ha ha').mono ?_
  rintro e w1 ⟨⟨A, n, c, hn, rfl, hA⟩, h1⟩
  have hf1 := fld_wide1 (decide (a < 0)) A n c w1
  go_wp2_with fail
  refine (of_any b _ hb hb').mono ?_
  rintro e w2 ⟨⟨A', m, c', hm, rfl, hA'⟩, h2⟩
  have hf2 := fld_wide1 (decide (b < 0)) A' m c' w2
  have hs1 := h1.size
  have hs2 := h2.size
  have e63 : (2 : Nat) ^ 63 = 9223372036854775808 := by decide
  have hrel0 : GcdRel w (Nat.gcd a.natAbs b.natAbs) (.slice A n c) (.slice A' m c') (.int .i64 ((0 : Nat) : Int)) w2 0 a.natAbs b.natAbs :=
    ⟨rfl, ⟨A, n, c, by omega, rfl, (hA.below h2).more hs2⟩, ⟨A', m, c', by omega, rfl, hA'⟩, rfl, ⟨by rw [e63]; omega, by rw [e63]; omega, .inl rfl⟩, h1.trans (h2.mono hs1)⟩
  have HR := Lib.hid hrel0
  clear hrel0 hA hA' h1 h2 e63
  go_wp2
  clear hf1 hf2
  go_loopw [6, 7, 8, 9, 10] (fun xv yv iv _ _ wr => ∃ i x y, GcdRel w (Nat.gcd a.natAbs b.natAbs) xv yv iv wr i x y) (fun _ _ iv _ _ _ => 200 - (intOf iv).toNat)
  case atStart => exact ⟨0, _, _, HR.out⟩
  case round =>
    clear HR
    obtain ⟨i, x, y, hr⟩ := hrel
    obtain ⟨xA, xn, xc, hxn, rfl, hxa⟩ := hr.hx
    obtain ⟨yA, yn, yc, hyn, rfl, hya⟩ := hr.hy
    obtain rfl := hr.hi
    have hsz := hr.below.size
    by_cases h0 : 0 < y
    · have hlt := hr.eu.lt h0
      have hyn0 : 0 < yn := by
        rcases Nat.eq_zero_or_pos yn with h | h
        · have := hya.zero.1 h; omega
        · exact h
      have hst := Lib.hid (hr.eu.step h0)
      have hx65 : x < 2 ^ 65 := by
        have h1 := hr.eu.1
        have h2 : (2 : Nat) ^ 63 < 2 ^ 65 := by decide
        omega
      have hg : Nat.gcd y (x % y) = Nat.gcd a.natAbs b.natAbs := by rw [← hr.gcd, Nat.gcd_comm y, Nat.gcd_comm x, Nat.gcd_rec y x]
      have HG := Lib.hid hg
      have hbl := Lib.hid hr.below
      have HX := Lib.hid hx65
      clear hr hg hx65
      go_wp2_with fail
      refine (halves_any xA yA xn xc yn yc wr.heap.size _ _ _ hxn hyn (Nat.le_refl _) hxa hya h0 HX.out).mono ?_
      rintro e w3 ⟨⟨Q, k, r, R, l, s, hk, hl, rfl, hQ, hR⟩, h3⟩
      have hs3 := h3.size
      have hya2 := (hya.below h3).more hs3
      have HB := Lib.hid (hbl.out.trans (h3.mono hsz))
      clear h3 hQ hxa hya
      go_wp2
      go_roundw
      case rel => exact ⟨i + 1, y, x % y, by go_num, ⟨yA, yn, yc, hyn, rfl, hya2⟩, ⟨R, l, s, hl, rfl, hR⟩, HG.out, hst.out, HB.out⟩
      case measure => simp [intOf]; omega
    · obtain rfl : y = 0 := by omega
      have hyn0 : yn = 0 := hya.zero.2 rfl
      subst hyn0
      have hg := hr.gcd
      rw [Nat.gcd_zero_right] at hg
      have HG := Lib.hid hg
      have hbl := Lib.hid hr.below
      clear hr hg
      rcases Nat.lt_or_ge i 200 with hi | hi
      all_goals
        go_wp2_with fail
        refine (fit_any false xA xn xc wr.heap.size _ _ (by omega) (Nat.le_refl _) hxa).mono ?_
        rintro e w3 ⟨rfl, h3⟩
        have HB := Lib.hid (hbl.out.trans (h3.mono hsz))
        clear h3 hxa hya
        go_wp2
        go_ret2
        exact ⟨ret2 (vint (by rw [sgF, HG.out])) (vint (by rw [sgF, HG.out])), HB.out⟩
end Go.Proofs.Ytifjdfdjojkagaa
