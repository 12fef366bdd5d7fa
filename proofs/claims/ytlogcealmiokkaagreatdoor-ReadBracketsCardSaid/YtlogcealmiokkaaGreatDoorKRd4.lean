/- The reference's Print and Parse of integers: that they return. -/
import Derived.Test.YtlogcealmiokkaaGreatDoorKLex1
import Derived.Test.YtlogcealmiokkaaGreatDoorKGb
import Derived.Lib.Bytes
import Derived.BigQuiet
import Derived.Deep.QuietTactic
import Derived.Deep.DeepMust
import Derived.WalkSpells
namespace Go.Proofs.YtlogcealmiokkaaGreatDoor
open Go.RowKit
theorem p10_small {N k : Nat} (h : N * 10 ^ k ≤ 9223372036854775808) (hN : 9 < N) : k ≤ 18 := by
 rcases Nat.lt_or_ge k 19 with h1 | h1
 ·omega
 ·exfalso
  have h2 : 10 ^ 19 ≤ 10 ^ k := Nat.pow_le_pow_right (by omega) h1
  have h3 : 10 * 10 ^ k ≤ N * 10 ^ k := Nat.mul_le_mul_right _ (by omega)
  have h4 : (10 : Nat) ^ 19 = 10000000000000000000 := by decide
  omega
theorem pow_step {N k : Nat} (h : N * 10 ^ k ≤ 9223372036854775808) : N / 10 * 10 ^ (k + 1) ≤ 9223372036854775808 := by
 refine Nat.le_trans ?_ h
 rw [Nat.pow_succ, Nat.mul_comm (10 ^ k) 10, ← Nat.mul_assoc]
 exact Nat.mul_le_mul_right _ (Nat.div_mul_le_self N 10)
theorem dig_one : ∀ d, d < 10 → (⟨#[48, 49, 50, 51, 52, 53, 54, 55, 56, 57]⟩ : ByteArray).extract d (d + 1) = ⟨#[UInt8.ofNat (48 + d)]⟩ := by decide
structure PrRel (nv sv : Value) (N0 N k : Nat) (t : ByteArray) : Prop where
 hn : nv = .int .u64 (N : Int)
 hs : sv = .string t
 hk : t.size = k
 up : k ≤ 19
 pow : N * 10 ^ k ≤ 9223372036854775808
 dec : Hid (Lib.decDigits N0 = Lib.decDigits N ++ t.data.toList)
theorem PrRel.step {N0 N : Nat} {t : ByteArray} (h : Lib.decDigits N0 = Lib.decDigits N ++ t.data.toList) (h9 : 9 < N) {u : ByteArray} (hu : u = (⟨#[48, 49, 50, 51, 52, 53, 54, 55, 56, 57]⟩ : ByteArray).extract (N % 10) (N % 10 + 1)) : Lib.decDigits N0 = Lib.decDigits (N / 10) ++ (u ++ t).data.toList := by
 rw [h, Lib.decDigits, dif_neg (by omega), hu, dig_one _ (by omega)]
 simp
theorem print_end {a : Int} {N : Nat} {t : ByteArray} (h : Lib.decDigits a.natAbs = Lib.decDigits N ++ t.data.toList) (h9 : ¬ 9 < N) {u sg : ByteArray} (hu : u = (⟨#[48, 49, 50, 51, 52, 53, 54, 55, 56, 57]⟩ : ByteArray).extract N (N + 1)) (hs : sg = if a < 0 then ⟨#[45]⟩ else ⟨#[]⟩) : (sg ++ u ++ t).data.toList = Lib.itoa a := by
 have e : Lib.decDigits N = [UInt8.ofNat (48 + N)] := Lib.decDigits_one (by omega)
 rw [hs, hu, dig_one _ (by omega)]
 unfold Lib.itoa
 by_cases ha : a < 0
 ·rw [if_pos ha, if_pos ha, h, e]; simp
 ·rw [if_neg ha, if_neg ha, show a.toNat = a.natAbs by omega, h, e]; simp
set_option maxRecDepth 100000 in
set_option maxHeartbeats 1000000 in
theorem rprint_any (a : Int) (w : World) (ha : -9223372036854775808 ≤ a) (ha' : a ≤ 9223372036854775807) : Calls Tryz.prog 17 #[.int .i64 a] w fun e w' => (∃ t, e = .returned (.string t) ∧ t.data.toList = Lib.itoa a) ∧ w = w' := by
 by_cases hs : a < 0
 all_goals
  have HS := Lib.hid hs
  go_enter Tryz.func17, Tryz.ntmps17
  go_wp2
  go_loopw [3, 5] (fun nv sv wr => (∃ N k t, PrRel nv sv a.natAbs N k t) ∧ w = wr) (fun nv _ _ => (intOf nv).toNat)
  case atStart => exact ⟨⟨a.natAbs, 0, ⟨#[]⟩, ⟨by first | (congr 1; omega) | rfl, rfl, rfl, by omega, by omega, Lib.hid (by simp)⟩⟩, rfl⟩
  case round =>
   obtain ⟨⟨N, k, t, hr⟩, rfl⟩ := hrel
   obtain rfl := hr.hn
   obtain rfl := hr.hs
   have R := Lib.hid hr
   have hk := hr.hk
   have hup := hr.up
   have htop : N ≤ 9223372036854775808 := Nat.le_trans (Nat.le_mul_of_pos_right N (Nat.pow_pos (by omega))) hr.pow
   clear hr ha ha' hs
   by_cases h9 : 9 < N
   ·have h9' : (9 : Int) < (N : Int) := by omega
    have hk18 := p10_small R.out.pow h9
    have hL : ({ data := #[48, 49, 50, 51, 52, 53, 54, 55, 56, 57] } : ByteArray).size = 10 := rfl
    go_wp2
    go_roundw
    case rel => exact ⟨⟨N / 10, k + 1, _, ⟨by go_num, rfl, by rw [ByteArray.size_append, ByteArray.size_extract, hL]; omega, by omega, pow_step R.out.pow, Lib.hid (PrRel.step R.out.dec.out h9 (by first | rfl | (congr 1 <;> omega)))⟩⟩, by trivial⟩
    case measure => simp [intOf]; omega
   ·have h9' : ¬ (9 : Int) < (N : Int) := by omega
    go_wp2
    go_ret
    exact ⟨⟨_, rfl, print_end R.out.dec.out h9 (by first | rfl | (congr 1 <;> omega)) (by simp [HS.out])⟩, rfl⟩
def I64 (n : Int) : Prop := -9223372036854775808 ≤ n ∧ n ≤ 9223372036854775807
theorem i64_wrap (x : Int) : I64 (wrap64 x) := by
 unfold I64 wrap64
 omega
theorem digF_snoc (l : List UInt8) (c : UInt8) (n : Int) : digF (l ++ [c]) n = digS (digF l n) c := by simp [digF]
theorem digF_take {s : ByteArray} {i : Nat} (h : i < s.size) : digF (s.data.toList.take (i + 1)) 0 = digS (digF (s.data.toList.take i) 0) (bu s i) := by
 have h' : i < s.data.toList.length := by rw [Array.length_toList]; exact h
 rw [List.take_succ_eq_append_getElem h', digF_snoc]
 congr 1
 unfold bu
 rw [List.getD_eq_getElem?_getD, List.getElem?_eq_getElem h']
 rfl
theorem digF_all (s : ByteArray) : digF (s.data.toList.take s.size) 0 = digF s.data.toList 0 := by
 rw [List.take_of_length_le (by rw [Array.length_toList]; exact Nat.le_refl _)]
theorem eq_or_ne_str (t s : ByteArray) : (t.toList == s.toList) = true ↔ t.data.toList = s.data.toList := by simp [Lib.toList_data]
theorem parseN_short {s : ByteArray} (h : s.size < 1 ∨ 20 < s.size) : parseN s = none := by unfold parseN; rw [if_pos h]
theorem parseN_some {s : ByteArray} (h : ¬ (s.size < 1 ∨ 20 < s.size)) {b : Int} (hb : b = if bn s 0 = 45 then wrap64 (-wrap64 (digF s.data.toList 0)) else wrap64 (digF s.data.toList 0)) (he : Lib.itoa b = s.data.toList) : parseN s = some b := by
 unfold parseN; rw [if_neg h]; dsimp only; rw [← hb, if_pos he]
theorem parseN_none {s : ByteArray} (h : ¬ (s.size < 1 ∨ 20 < s.size)) {b : Int} (hb : b = if bn s 0 = 45 then wrap64 (-wrap64 (digF s.data.toList 0)) else wrap64 (digF s.data.toList 0)) (he : ¬ Lib.itoa b = s.data.toList) : parseN s = none := by
 unfold parseN; rw [if_neg h]; dsimp only; rw [← hb, if_neg he]
theorem digS_digit {s : ByteArray} {i : Nat} {n : Int} (h1 : 48 ≤ (bn s i : Int)) (h2 : (bn s i : Int) ≤ 57) : digS n (bu s i) = (n * 10 + ((bn s i : Int) - 48)) % 18446744073709551616 := by
 exact if_pos ⟨h1, h2⟩
theorem digS_other {s : ByteArray} {i : Nat} {n : Int} (h : ¬ (48 ≤ (bn s i : Int) ∧ (bn s i : Int) ≤ 57)) : digS n (bu s i) = n := if_neg h
set_option maxRecDepth 100000 in
set_option maxHeartbeats 1000000 in
theorem rparse_any (s : ByteArray) (w : World) : Calls Tryz.prog 80 #[.string s] w fun e w' =>
 (∃ n er, e = .returned (.tuple #[.int .i64 n, .int .i64 er]) ∧ I64 n ∧ Hid ((er = 0 ∧ parseN s = some n) ∨ (er = 12 ∧ n = 0 ∧ parseN s = none))) ∧ w = w' := by
 have hb : ∀ (i : Nat) (h : i < s.size), (s[i]'h).toNat = bn s i := bn_eq s
 by_cases h1 : (s.size : Int) < 1
 ·go_enter Tryz.func80, Tryz.ntmps80
  go_wp2
  go_ret2
  exact ⟨⟨0, 12, rfl, by unfold I64; omega, Lib.hid (.inr ⟨rfl, rfl, parseN_short (by omega)⟩)⟩, rfl⟩
 by_cases h20 : (20 : Int) < (s.size : Int)
 ·go_enter Tryz.func80, Tryz.ntmps80
  go_wp2
  go_ret2
  exact ⟨⟨0, ⟨12, rfl, by unfold I64; omega, Lib.hid (.inr ⟨rfl, rfl, parseN_short (by omega)⟩)⟩⟩, rfl⟩
 have h0 : 0 < s.size := by omega
 have HZ := Lib.hid (show ¬ (s.size < 1 ∨ 20 < s.size) by omega)
 go_enter Tryz.func80, Tryz.ntmps80
 go_wp2
 go_loopw [4, 5] (fun nv iv wr => (∃ (N : Int) (i : Nat), nv = .int .u64 N ∧ iv = .int .i64 (i : Int) ∧ i ≤ s.size ∧ Hid (N = digF (s.data.toList.take i) 0)) ∧ w = wr) (fun _ iv _ => s.size - (intOf iv).toNat)
 case atStart => exact ⟨⟨0, 0, rfl, rfl, by omega, Lib.hid rfl⟩, rfl⟩
 case round =>
  obtain ⟨⟨N, i, rfl, rfl, hi, hN⟩, rfl⟩ := hrel
  by_cases hlt : i < s.size
  ·have hlt' : (i : Int) < (s.size : Int) := by omega
   by_cases hlo : 48 ≤ (bn s i : Int)
   ·by_cases hhi : (bn s i : Int) ≤ 57
    ·go_wp2
     go_roundw
     case rel => exact ⟨⟨_, i + 1, rfl, by go_num, hlt, Lib.hid (by rw [digF_take hlt, digS_digit hlo hhi, ← hN.out]; simp only [IntKind.wrap_u64]; omega)⟩, by trivial⟩
     case measure => simp [intOf]; omega
    ·go_wp2
     go_roundw
     case rel => exact ⟨⟨_, i + 1, rfl, by go_num, hlt, Lib.hid (by rw [digF_take hlt, digS_other (by omega), ← hN.out])⟩, by trivial⟩
     case measure => simp [intOf]; omega
   ·go_wp2
    go_roundw
    case rel => exact ⟨⟨_, i + 1, rfl, by go_num, hlt, Lib.hid (by rw [digF_take hlt, digS_other (by omega), ← hN.out])⟩, by trivial⟩
    case measure => simp [intOf]; omega
  ·obtain rfl : i = s.size := by omega
   cases h45 : ((bn s 0 : Int) == 45) with
   | true =>
    have hx := Lib.hid (i64_wrap (-wrap64 N))
    have HB := Lib.hid (show wrap64 (-wrap64 N) = if bn s 0 = 45 then wrap64 (-wrap64 (digF s.data.toList 0)) else wrap64 (digF s.data.toList 0) by
     rw [hN.out, digF_all, if_pos (by simp at h45; omega)])
    go_wp2_with fail
    refine (rprint_any _ _ hx.out.1 hx.out.2).mono ?_
    rintro e w1 ⟨⟨t, rfl, ht⟩, rfl⟩
    have HT := Lib.hid ht
    clear ht
    cases hts : (t.toList == s.toList) with
    | false =>
     go_wp2_with fail
     go_ret2
     exact ⟨⟨0, 12, rfl, by unfold I64; omega, Lib.hid (.inr ⟨rfl, rfl, parseN_none HZ.out HB.out (by rw [← HT.out]; intro e; rw [(eq_or_ne_str t s).2 e] at hts; cases hts)⟩)⟩, rfl⟩
    | true =>
     go_wp2_with fail
     go_ret2
     exact ⟨⟨_, 0, rfl, hx.out, Lib.hid (.inl ⟨rfl, parseN_some HZ.out HB.out (by rw [← HT.out]; exact (eq_or_ne_str t s).1 hts)⟩)⟩, rfl⟩
   | false =>
    have hx := Lib.hid (i64_wrap N)
    have HB := Lib.hid (show wrap64 N = if bn s 0 = 45 then wrap64 (-wrap64 (digF s.data.toList 0)) else wrap64 (digF s.data.toList 0) by
     rw [hN.out, digF_all, if_neg (by intro h; rw [h] at h45; cases h45)])
    go_wp2_with fail
    refine (rprint_any _ _ hx.out.1 hx.out.2).mono ?_
    rintro e w1 ⟨⟨t, rfl, ht⟩, rfl⟩
    have HT := Lib.hid ht
    clear ht
    cases hts : (t.toList == s.toList) with
    | false =>
     go_wp2_with fail
     go_ret2
     exact ⟨⟨0, 12, rfl, by unfold I64; omega, Lib.hid (.inr ⟨rfl, rfl, parseN_none HZ.out HB.out (by rw [← HT.out]; intro e; rw [(eq_or_ne_str t s).2 e] at hts; cases hts)⟩)⟩, rfl⟩
    | true =>
     go_wp2_with fail
     go_ret2
     exact ⟨⟨_, 0, rfl, hx.out, Lib.hid (.inl ⟨rfl, parseN_some HZ.out HB.out (by rw [← HT.out]; exact (eq_or_ne_str t s).1 hts)⟩)⟩, rfl⟩
end Go.Proofs.YtlogcealmiokkaaGreatDoor
