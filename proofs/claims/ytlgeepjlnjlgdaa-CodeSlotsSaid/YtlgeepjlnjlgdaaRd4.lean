/- The reference's Print and Parse of integers: that they return. -/
import Derived.Test.YtlgeepjlnjlgdaaLex1
import Derived.BigQuiet
import Derived.Deep.QuietTactic
import Derived.Deep.DeepMust
import Derived.WalkSpells
namespace Go.Proofs.Ytlgeepjlnjlgdaa
open Go.RowKit

theorem p10_small {N k : Nat} (h : N * 10 ^ k ≤ 9223372036854775808) (hN : 9 < N) : k ≤ 18 := by
  rcases Nat.lt_or_ge k 19 with h1 | h1
  · omega
  · exfalso
    have h2 : 10 ^ 19 ≤ 10 ^ k := Nat.pow_le_pow_right (by omega) h1
    have h3 : 10 * 10 ^ k ≤ N * 10 ^ k := Nat.mul_le_mul_right _ (by omega)
    have h4 : (10 : Nat) ^ 19 = 10000000000000000000 := by decide
    omega
theorem pow_step {N k : Nat} (h : N * 10 ^ k ≤ 9223372036854775808) : N / 10 * 10 ^ (k + 1) ≤ 9223372036854775808 := by
  refine Nat.le_trans ?_ h
  rw [Nat.pow_succ, Nat.mul_comm (10 ^ k) 10, ← Nat.mul_assoc]
  exact Nat.mul_le_mul_right _ (Nat.div_mul_le_self N 10)
structure PrRel (nv sv : Value) (N k : Nat) (t : ByteArray) : Prop where
  hn : nv = .int .u64 (N : Int)
  hs : sv = .string t
  hk : t.size = k
  up : k ≤ 19
  pow : N * 10 ^ k ≤ 9223372036854775808
set_option maxRecDepth 100000 in
set_option maxHeartbeats 1000000 in
theorem rprint_any (a : Int) (w : World) (ha : -9223372036854775808 ≤ a) (ha' : a ≤ 9223372036854775807) : Calls Try.prog 95 #[.int .i64 a] w fun e w' => (∃ t, e = .returned (.string t)) ∧ w = w' := by
  by_cases hs : a < 0
  all_goals
    go_enter Try.func95, Try.ntmps95
    go_wp2
    go_loopw [3, 5] (fun nv sv wr => (∃ N k t, PrRel nv sv N k t) ∧ w = wr) (fun nv _ _ => (intOf nv).toNat)
    case atStart => exact ⟨⟨a.natAbs, 0, ⟨#[]⟩, ⟨by first | (congr 1; omega) | rfl, rfl, rfl, by omega, by omega⟩⟩, rfl⟩
    case round =>
      obtain ⟨⟨N, k, t, hr⟩, rfl⟩ := hrel
      obtain rfl := hr.hn
      obtain rfl := hr.hs
      have R := Lib.hid hr
      have hk := hr.hk
      have hup := hr.up
      have htop : N ≤ 9223372036854775808 := Nat.le_trans (Nat.le_mul_of_pos_right N (Nat.pow_pos (by omega))) hr.pow
      clear hr ha ha' hs
      by_cases h9 : 9 < N
      · have h9' : (9 : Int) < (N : Int) := by omega
        have hk18 := p10_small R.out.pow h9
        have hL : ({ data := #[48, 49, 50, 51, 52, 53, 54, 55, 56, 57] } : ByteArray).size = 10 := rfl
        go_wp2
        go_roundw
        case rel => exact ⟨⟨N / 10, k + 1, _, ⟨by go_num, rfl, by rw [ByteArray.size_append, ByteArray.size_extract, hL]; omega, by omega, pow_step R.out.pow⟩⟩, by trivial⟩
        case measure => simp [intOf]; omega
      · have h9' : ¬ (9 : Int) < (N : Int) := by omega
        go_wp2
        go_ret
        exact ⟨⟨_, rfl⟩, rfl⟩
def I64 (n : Int) : Prop := -9223372036854775808 ≤ n ∧ n ≤ 9223372036854775807
theorem i64_wrap (x : Int) : I64 (wrap64 x) := by
  unfold I64 wrap64
  omega
set_option maxRecDepth 100000 in
set_option maxHeartbeats 1000000 in
theorem rparse_any (s : ByteArray) (w : World) : Calls Try.prog 89 #[.string s] w fun e w' =>
    (∃ n er, e = .returned (.tuple #[.int .i64 n, .int .i64 er]) ∧ I64 n) ∧ w = w' := by
  have hb : ∀ (i : Nat) (h : i < s.size), (s[i]'h).toNat = bn s i := bn_eq s
  by_cases h1 : (s.size : Int) < 1
  · go_enter Try.func89, Try.ntmps89
    go_wp2
    go_ret2
    exact ⟨⟨0, 12, rfl, by unfold I64; omega⟩, rfl⟩
  by_cases h20 : (20 : Int) < (s.size : Int)
  · go_enter Try.func89, Try.ntmps89
    go_wp2
    go_ret2
    exact ⟨⟨0, ⟨12, rfl⟩, by unfold I64; omega⟩, rfl⟩
  have h0 : 0 < s.size := by omega
  go_enter Try.func89, Try.ntmps89
  go_wp2
  go_loopw [4, 5] (fun nv iv wr => (∃ (N : Int) (i : Nat), nv = .int .u64 N ∧ iv = .int .i64 (i : Int) ∧ i ≤ s.size) ∧ w = wr) (fun _ iv _ => s.size - (intOf iv).toNat)
  case atStart => exact ⟨⟨0, 0, rfl, rfl, by omega⟩, rfl⟩
  case round =>
    obtain ⟨⟨N, i, rfl, rfl, hi⟩, rfl⟩ := hrel
    by_cases hlt : i < s.size
    · have hlt' : (i : Int) < (s.size : Int) := by omega
      by_cases hlo : 48 ≤ (bn s i : Int)
      · by_cases hhi : (bn s i : Int) ≤ 57
        · go_wp2
          go_roundw
          case rel => exact ⟨⟨_, i + 1, rfl, by go_num, hlt⟩, by trivial⟩
          case measure => simp [intOf]; omega
        · go_wp2
          go_roundw
          case rel => exact ⟨⟨_, i + 1, rfl, by go_num, hlt⟩, by trivial⟩
          case measure => simp [intOf]; omega
      · go_wp2
        go_roundw
        case rel => exact ⟨⟨_, i + 1, rfl, by go_num, hlt⟩, by trivial⟩
        case measure => simp [intOf]; omega
    · obtain rfl : i = s.size := by omega
      cases h45 : ((bn s 0 : Int) == 45) with
      | true =>
        have hx := Lib.hid (i64_wrap (-wrap64 N))
        go_wp2_with fail
        refine (rprint_any _ _ hx.out.1 hx.out.2).mono ?_
        rintro e w1 ⟨⟨t, rfl⟩, rfl⟩
        go_wp2_with fail
        · go_ret2
          exact ⟨⟨0, 12, rfl, by unfold I64; omega⟩, rfl⟩
        · go_ret2
          exact ⟨⟨_, 0, rfl, hx.out⟩, rfl⟩
      | false =>
        have hx := Lib.hid (i64_wrap N)
        go_wp2_with fail
        refine (rprint_any _ _ hx.out.1 hx.out.2).mono ?_
        rintro e w1 ⟨⟨t, rfl⟩, rfl⟩
        go_wp2_with fail
        · go_ret2
          exact ⟨⟨0, 12, rfl, by unfold I64; omega⟩, rfl⟩
        · go_ret2
          exact ⟨⟨_, 0, rfl, hx.out⟩, rfl⟩
end Go.Proofs.Ytlgeepjlnjlgdaa
