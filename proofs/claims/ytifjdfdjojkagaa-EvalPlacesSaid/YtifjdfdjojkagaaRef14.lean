/- The walks through coneyref01: Div, Mod, Shl, Shr, Gcd. -/
import Derived.Test.YtifjdfdjojkagaaRef13
import Derived.Test.YtifjdfdjojkagaaFit2
namespace Go.Proofs.Ytifjdfdjojkagaa
open Go.RowKit Dg

set_option maxHeartbeats 1000000 in
set_option maxRecDepth 100000 in
theorem rDiv_zero (a : Int) (w : World) :
    Calls Try.prog 35 #[.int .i64 a, .int .i64 0] w fun e w' => e = .returned (.tuple #[.int .i64 0, .int .i64 11]) ∧ Below w.heap.size w w' := by
  go_enter Try.func35, Try.ntmps35
  go_wp2
  go_ret2
  exact ⟨rfl, Below.refl _ _⟩
set_option maxHeartbeats 1000000 in
set_option maxRecDepth 100000 in
theorem rMod_zero (a : Int) (w : World) :
    Calls Try.prog 36 #[.int .i64 a, .int .i64 0] w fun e w' => e = .returned (.tuple #[.int .i64 0, .int .i64 11]) ∧ Below w.heap.size w w' := by
  go_enter Try.func36, Try.ntmps36
  go_wp2
  go_ret2
  exact ⟨rfl, Below.refl _ _⟩
set_option maxHeartbeats 1000000 in
set_option maxRecDepth 100000 in
theorem rDiv_any (a b : Int) (w : World) (ha : -9223372036854775808 ≤ a) (ha' : a ≤ 9223372036854775807) (hb : -9223372036854775808 ≤ b) (hb' : b ≤ 9223372036854775807) (hz : ¬ b = 0) :
    Calls Try.prog 35 #[.int .i64 a, .int .i64 b] w fun e w' => e = .returned (.tuple #[.int .i64 (fitV (divS a b)), .int .i64 (fitE (divS a b))]) ∧ Below w.heap.size w w' := by
  have hz2 : (b == 0) = false := by simpa using hz
  go_enter Try.func35, Try.ntmps35
  go_wp2_with fail
  refine (down_any a b _ ha ha' hb hb' hz).mono ?_
  rintro e w1 ⟨⟨p, q, Q, k, r, R, l, s, K, L, hk, hl, rfl, hQ, hR, hK, hL⟩, h1⟩
  have hs1 := h1.size
  have HK := Lib.hid hK
  clear hK hL
  go_wp2_with fail
  refine (fit_any _ Q k r w1.heap.size _ _ (by omega) (by simp; omega) (hQ.below (((Below.refl _ _).alloc (Nat.le_refl _) _).alloc (by simp) _))).mono ?_
  rintro e w2 ⟨rfl, h2⟩
  have HB := Lib.hid (((h1.alloc hs1 _).alloc (by simp; omega) _).trans (h2.mono (by simp; omega)))
  clear h1 h2 hQ hR
  go_wp2
  go_ret2
  exact ⟨ret2 (vint (congrArg fitV HK.out)) (vint (congrArg fitE HK.out)), HB.out⟩
set_option maxHeartbeats 1000000 in
set_option maxRecDepth 100000 in
theorem rMod_fit (a b : Int) (w : World) (ha : -9223372036854775808 ≤ a) (ha' : a ≤ 9223372036854775807) (hb : -9223372036854775808 ≤ b) (hb' : b ≤ 9223372036854775807) (hz : ¬ b = 0) :
    Calls Try.prog 36 #[.int .i64 a, .int .i64 b] w fun e w' => e = .returned (.tuple #[.int .i64 (fitV (modS a b)), .int .i64 (fitE (modS a b))]) ∧ Below w.heap.size w w' := by
  have hz2 : (b == 0) = false := by simpa using hz
  go_enter Try.func36, Try.ntmps36
  go_wp2_with fail
  refine (down_any a b _ ha ha' hb hb' hz).mono ?_
  rintro e w1 ⟨⟨p, q, Q, k, r, R, l, s, K, L, hk, hl, rfl, hQ, hR, hK, hL⟩, h1⟩
  have hs1 := h1.size
  have HK := Lib.hid hL
  clear hK hL
  go_wp2_with fail
  refine (fit_any _ R l s w1.heap.size _ _ (by omega) (by simp; omega) (hR.below (((Below.refl _ _).alloc (Nat.le_refl _) _).alloc (by simp) _))).mono ?_
  rintro e w2 ⟨rfl, h2⟩
  have HB := Lib.hid (((h1.alloc hs1 _).alloc (by simp; omega) _).trans (h2.mono (by simp; omega)))
  clear h1 h2 hQ hR
  go_wp2
  go_ret2
  exact ⟨ret2 (vint (congrArg fitV HK.out)) (vint (congrArg fitE HK.out)), HB.out⟩
theorem rMod_any (a b : Int) (w : World) (ha : -9223372036854775808 ≤ a) (ha' : a ≤ 9223372036854775807) (hb : -9223372036854775808 ≤ b) (hb' : b ≤ 9223372036854775807) (hz : ¬ b = 0) :
    Calls Try.prog 36 #[.int .i64 a, .int .i64 b] w fun e w' => e = .returned (.tuple #[.int .i64 (modS a b), .int .i64 0]) ∧ Below w.heap.size w w' := by
  have h := rMod_fit a b w ha ha' hb hb' hz
  have h1 := modS_bd a b hz
  rwa [fitV_in (by omega) (by omega), fitE_in (by omega) (by omega)] at h

set_option maxHeartbeats 1000000 in
set_option maxRecDepth 100000 in
theorem rShl_neg (a n : Int) (w : World) (h0 : n < 0) :
    Calls Try.prog 39 #[.int .i64 a, .int .i64 n] w fun e w' => e = .returned (.tuple #[.int .i64 0, .int .i64 1]) ∧ Below w.heap.size w w' := by
  go_enter Try.func39, Try.ntmps39
  go_wp2
  go_ret2
  exact ⟨rfl, Below.refl _ _⟩
set_option maxHeartbeats 1000000 in
set_option maxRecDepth 100000 in
theorem rShr_neg (a n : Int) (w : World) (h0 : n < 0) :
    Calls Try.prog 40 #[.int .i64 a, .int .i64 n] w fun e w' => e = .returned (.tuple #[.int .i64 0, .int .i64 1]) ∧ Below w.heap.size w w' := by
  go_enter Try.func40, Try.ntmps40
  go_wp2
  go_ret2
  exact ⟨rfl, Below.refl _ _⟩
set_option maxHeartbeats 1000000 in
set_option maxRecDepth 100000 in
theorem rPow_neg (a n : Int) (w : World) (h0 : n < 0) :
    Calls Try.prog 37 #[.int .i64 a, .int .i64 n] w fun e w' => e = .returned (.tuple #[.int .i64 0, .int .i64 1]) ∧ Below w.heap.size w w' := by
  go_enter Try.func37, Try.ntmps37
  go_wp2
  go_ret2
  exact ⟨rfl, Below.refl _ _⟩

theorem sg_shl (a : Int) (n : Nat) : sg (decide (a < 0)) ((a.natAbs : Int) * 2 ^ n) = a * 2 ^ n := by
  have h := sg_mul (decide (a < 0)) false (a.natAbs : Int) (2 ^ n)
  rw [sg_abs, sgF] at h
  simpa using h
theorem sg_shl70 (a : Int) : sg (decide (a < 0)) ((a.natAbs : Int) * 1180591620717411303424) = a * 2 ^ 70 := by
  rw [← sg_shl a 70, show (2 : Int) ^ 70 = 1180591620717411303424 by decide]

set_option maxHeartbeats 1000000 in
set_option maxRecDepth 100000 in
theorem rShl_any (a n : Int) (w : World) (h0 : 0 ≤ n) (hn : n ≤ 9223372036854775807) (ha : -9223372036854775808 ≤ a) (ha' : a ≤ 9223372036854775807) :
    Calls Try.prog 39 #[.int .i64 a, .int .i64 n] w fun e w' => e = .returned (.tuple #[.int .i64 (fitV (a * 2 ^ (min n.toNat 70))), .int .i64 (fitE (a * 2 ^ (min n.toNat 70)))]) ∧ Below w.heap.size w w' := by
  obtain ⟨m, hm, hm2⟩ : ∃ m : Nat, m ≤ 70 ∧ m = min n.toNat 70 := ⟨_, by omega, rfl⟩
  rw [← hm2]
  have hcase : (70 < n ∧ (m : Int) = 70) ∨ (n ≤ 70 ∧ n = (m : Int)) := by omega
  have HSG := Lib.hid (sg_shl a m)
  clear hm2
  rcases hcase with ⟨hc, hc2⟩ | ⟨hc, rfl⟩
  · obtain rfl : m = 70 := by omega
    clear hc2 HSG
    have HSG := Lib.hid (sg_shl70 a)
    have hmin : min n 70 = 70 := by omega
    go_enter Try.func39, Try.ntmps39
    go_wp2_with fail
    refine (of_any a _ ha ha').mono ?_
    rintro e w1 ⟨⟨A, n', c, hn', rfl, hA⟩, h1⟩
    go_wp2_with fail
    refine (power_any 70 _ (by omega)).mono ?_
    rintro e w2 ⟨⟨P, k, r, hk, rfl, hP⟩, h2⟩
    have hk2 : k ≤ 5 := by omega
    have hs1 := h1.size
    have hs2 := h2.size
    clear hk
    go_wp2_with fail
    refine (times_any _ _ A P n' c k r _ _ _ _ (by omega) (by omega) (Nat.le_refl _) ((hA.below h2).more hs2) hP).mono ?_
    rintro e w3 ⟨⟨R, k3, r3, hk3, rfl, hR⟩, h3⟩
    have hs3 := h3.size
    go_wp2_with fail
    refine (fit_any _ R k3 r3 _ _ _ (by omega) (Nat.le_refl _) hR).mono ?_
    rintro e w4 ⟨rfl, h4⟩
    have HB := Lib.hid (((h1.trans (h2.mono hs1)).trans (h3.mono (by omega))).trans (h4.mono (by omega)))
    clear h1 h2 h3 h4 hA hP hR
    go_wp2
    go_ret2
    exact ⟨ret2 (vint (congrArg fitV HSG.out)) (vint (congrArg fitE HSG.out)), HB.out⟩
  · have hmin : min (m : Int) 70 = (m : Int) := by omega
    go_enter Try.func39, Try.ntmps39
    go_wp2_with fail
    refine (of_any a _ ha ha').mono ?_
    rintro e w1 ⟨⟨A, n', c, hn', rfl, hA⟩, h1⟩
    go_wp2_with fail
    refine (power_any m _ (by omega)).mono ?_
    rintro e w2 ⟨⟨P, k, r, hk, rfl, hP⟩, h2⟩
    have hk2 : k ≤ 5 := by omega
    have hs1 := h1.size
    have hs2 := h2.size
    clear hk
    go_wp2_with fail
    refine (times_any _ _ A P n' c k r _ _ _ _ (by omega) (by omega) (Nat.le_refl _) ((hA.below h2).more hs2) hP).mono ?_
    rintro e w3 ⟨⟨R, k3, r3, hk3, rfl, hR⟩, h3⟩
    have hs3 := h3.size
    go_wp2_with fail
    refine (fit_any _ R k3 r3 _ _ _ (by omega) (Nat.le_refl _) hR).mono ?_
    rintro e w4 ⟨rfl, h4⟩
    have HB := Lib.hid (((h1.trans (h2.mono hs1)).trans (h3.mono (by omega))).trans (h4.mono (by omega)))
    clear h1 h2 h3 h4 hA hP hR
    go_wp2
    go_ret2
    exact ⟨ret2 (vint (congrArg fitV HSG.out)) (vint (congrArg fitE HSG.out)), HB.out⟩

theorem divS_two (a : Int) : divS a 2 = a / 2 := by
  unfold divS low
  have h1 := Int.tdiv_mul_add_tmod a 2
  have h2 := tmod_bd a 2 (by omega)
  have h3 := tmod_sign a 2
  have h4 : (2 : Int).natAbs = 2 := rfl
  by_cases h0 : a.tmod 2 = 0
  · simp [h0]; omega
  · by_cases hs : a < 0
    · simp [h0, hs]; omega
    · simp [hs]; omega
theorem div_step (a : Int) (k : Nat) : a / 2 ^ k / 2 = a / 2 ^ (k + 1) := by
  rw [Int.pow_succ, Int.ediv_ediv_of_nonneg (by exact Int.le_of_lt (two_pow_pos k))]
theorem div_bd (a : Int) (k : Nat) (ha : -9223372036854775808 ≤ a) (ha' : a ≤ 9223372036854775807) : -9223372036854775808 ≤ a / 2 ^ k ∧ a / 2 ^ k ≤ 9223372036854775807 := by
  induction k with
  | zero => simp; omega
  | succ k ih => rw [← div_step]; omega
theorem shr_64 (a : Int) (ha : -9223372036854775808 ≤ a) (ha' : a ≤ 9223372036854775807) : a / 2 ^ 64 = a / 2 ^ 63 := by
  have h1 : (2 : Int) ^ 64 = 18446744073709551616 := by decide
  have h2 : (2 : Int) ^ 63 = 9223372036854775808 := by decide
  rw [h1, h2]; omega

set_option maxHeartbeats 1000000 in
set_option maxRecDepth 100000 in
theorem rShr_any (a n : Int) (w : World) (h0 : 0 ≤ n) (hn : n ≤ 9223372036854775807) (ha : -9223372036854775808 ≤ a) (ha' : a ≤ 9223372036854775807) :
    Calls Try.prog 40 #[.int .i64 a, .int .i64 n] w fun e w' => e = .returned (.tuple #[.int .i64 (shrS a n), .int .i64 0]) ∧ Below w.heap.size w w' := by
  go_enter Try.func40, Try.ntmps40
  go_wp2
  go_loopw [0, 6] (fun av iv wr => ∃ k : Nat, (k : Int) ≤ n ∧ k ≤ 64 ∧ av = .int .i64 (a / 2 ^ k) ∧ iv = .int .i64 (k : Int) ∧ Below w.heap.size w wr) (fun _ iv _ => 64 - (intOf iv).toNat)
  case atStart => exact ⟨0, by omega, by omega, vint (by simp), rfl, Below.refl _ _⟩
  case round =>
    obtain ⟨k, hk, hk2, rfl, rfl, hbl⟩ := hrel
    have hd := div_bd a k ha ha'
    by_cases h1 : (k : Int) < n
    · by_cases h2 : k < 64
      · have hst := Lib.hid ((divS_two (a / 2 ^ k)).trans (div_step a k))
        have hds := Lib.hid (div_bd a (k + 1) ha ha')
        have hsz := hbl.size
        go_wp2_with fail
        refine (rDiv_any _ 2 _ hd.1 hd.2 (by omega) (by omega) (by omega)).mono ?_
        rw [hst.out, fitV_in hds.out.1 hds.out.2, fitE_in hds.out.1 hds.out.2]
        rintro e w1 ⟨rfl, h1'⟩
        have HB := Lib.hid (hbl.trans (h1'.mono hsz))
        clear hbl h1'
        go_wp2
        go_roundw
        case rel => exact ⟨k + 1, by omega, by omega, rfl, by go_num, HB.out⟩
        case measure => simp [intOf]; omega
      · obtain rfl : k = 64 := by omega
        have hs : a / 2 ^ 64 = shrS a n := by
          unfold shrS
          rw [show min n.toNat 63 = 63 by omega, shr_64 a ha ha']
        have HS := Lib.hid hs
        clear hs
        go_wp2
        go_ret2
        exact ⟨ret2 (vint HS.out) rfl, hbl⟩
    · obtain rfl : n = (k : Int) := by omega
      have hs : a / 2 ^ k = shrS a (k : Int) := by
        unfold shrS
        rw [Int.toNat_natCast]
        rcases Nat.lt_or_ge k 64 with h | h
        · rw [show min k 63 = k by omega]
        · obtain rfl : k = 64 := by omega
          rw [show min 64 63 = 63 by omega, shr_64 a ha ha']
      have HS := Lib.hid hs
      clear hs
      go_wp2
      go_ret2
      exact ⟨ret2 (vint HS.out) rfl, hbl⟩
end Go.Proofs.Ytifjdfdjojkagaa
