/- The reference's lexer: what lies between tokens. -/
import Derived.Test.YtgoedlbdnmhppaaLex1
namespace Go.Proofs.Ytgoedlbdnmhppaa
open Go.RowKit

set_option maxHeartbeats 2000000 in
theorem between_any (s : ByteArray) (i : Nat) (w : World) (hi : i ≤ s.size) (hs : s.size ≤ 90000) : Calls Try.prog 61 #[.string s, .int .i64 i] w fun e w' =>
    (∃ (j : Nat) (ok : Bool), e = .returned (.tuple #[.int .i64 j, .bool ok]) ∧ i ≤ j ∧ j ≤ s.size) ∧ w = w' := by
  have hb : ∀ (i : Nat) (h : i < s.size), (s[i]'h).toNat = bn s i := bn_eq s
  go_enter Try.func61, Try.ntmps61
  go_wp2
  go_loopw [1] (fun iv wr => ∃ j : Nat, i ≤ j ∧ j ≤ s.size ∧ iv = .int .i64 (j : Int) ∧ w = wr) (fun iv _ => s.size - (intOf iv).toNat)
  case atStart => exact ⟨i, by omega, hi, rfl, rfl⟩
  case round =>
    obtain ⟨j, hij, hj, rfl, rfl⟩ := hrel
    by_cases h7 : j < s.size
    · have h7' : (j : Int) < (s.size : Int) := by omega
      go_wp2_with fail
      refine (blank_any (bn s j) _).mono ?_
      rintro e w1 ⟨⟨bl, rfl⟩, rfl⟩
      cases bl with
      | true =>
        go_wp2_with fail
        go_roundw
        case rel => exact ⟨j + 1, by omega, by omega, by go_num, by trivial⟩
        case measure => simp [intOf]; omega
      | false =>
        cases h37 : ((bn s j : Int) == 37) with
        | true =>
          go_wp2_with fail
          go_loopw [1] (fun iv wr => ∃ k : Nat, j ≤ k ∧ k ≤ s.size ∧ iv = .int .i64 (k : Int) ∧ w = wr) (fun iv _ => s.size - (intOf iv).toNat)
          case atStart => exact ⟨j, by omega, hj, rfl, rfl⟩
          case round =>
            obtain ⟨k, hjk, hk, rfl, rfl⟩ := hrel
            by_cases hks : k < s.size
            · have hks' : (k : Int) < (s.size : Int) := by omega
              cases hk10 : ((bn s k : Int) != 10) with
              | true =>
                go_wp2_with fail
                go_roundw
                case rel => exact ⟨k + 1, by omega, by omega, by go_num, by trivial⟩
                case measure => simp [intOf]; omega
              | false =>
                have hne : j < k := by
                  rcases Nat.lt_or_ge j k with h | h
                  · exact h
                  · obtain rfl : j = k := by omega
                    simp at h37 hk10
                    omega
                go_wp2_with fail
                go_roundw
                case rel => exact ⟨k, by omega, by omega, by go_num, by trivial⟩
                case measure => simp [intOf]; omega
            · obtain rfl : k = s.size := by omega
              go_wp2_with fail
              go_roundw
              case rel => exact ⟨s.size, by omega, by omega, by go_num, by trivial⟩
              case measure => simp [intOf]; omega
        | false =>
          go_wp2_with fail
          refine (two_any s j 47 42 _ (by omega)).mono ?_
          rintro e w1 ⟨⟨b2, rfl, h2⟩, rfl⟩
          cases b2 with
          | false =>
            go_wp2_with fail
            go_ret2
            exact ⟨⟨j, true, rfl, hij, hj⟩, rfl⟩
          | true =>
            have hj1 := h2 rfl
            clear h2
            go_wp2_with fail
            go_loopw [6] (fun iv wr => ∃ k : Nat, j < k ∧ k ≤ s.size ∧ iv = .int .i64 (k : Int) ∧ w = wr) (fun iv _ => s.size - (intOf iv).toNat)
            case atStart => exact ⟨j + 2, by omega, by omega, by go_num, by trivial⟩
            case round =>
              obtain ⟨k, hjk, hk, rfl, rfl⟩ := hrel
              by_cases hks : k < s.size
              · have hks' : (k : Int) < (s.size : Int) := by omega
                go_wp2_with fail
                refine (two_any s k 42 47 _ (by omega)).mono ?_
                rintro e w1 ⟨⟨b3, rfl, h3⟩, rfl⟩
                cases b3 with
                | false =>
                  go_wp2_with fail
                  go_roundw
                  case rel => exact ⟨k + 1, by omega, by omega, by go_num, by trivial⟩
                  case measure => simp [intOf]; omega
                | true =>
                  have hk1 := h3 rfl
                  clear h3
                  go_wp2_with fail
                  go_roundw
                  case rel => exact ⟨k + 2, by omega, by omega, by go_num, by trivial⟩
                  case measure => simp [intOf]; omega
              · obtain rfl : k = s.size := by omega
                go_wp2_with fail
                go_ret2
                exact ⟨⟨j, false, rfl, hij, hj⟩, rfl⟩
    · obtain rfl : j = s.size := by omega
      go_wp2
      go_ret2
      exact ⟨⟨s.size, true, rfl, hij, Nat.le_refl _⟩, rfl⟩
end Go.Proofs.Ytgoedlbdnmhppaa
