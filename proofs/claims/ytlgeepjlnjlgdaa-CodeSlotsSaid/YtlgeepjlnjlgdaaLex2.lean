/- The reference's lexer: what lies between tokens. -/
import Derived.Test.YtlgeepjlnjlgdaaLex1
namespace Go.Proofs.Ytlgeepjlnjlgdaa
open Go.RowKit

def pairV (r : Nat × Bool) : Value := .tuple #[.int .i64 (r.1 : Int), .bool r.2]
set_option maxHeartbeats 2000000 in
theorem between_any (s : ByteArray) (i : Nat) (w : World) (hi : i ≤ s.size) (hs : s.size ≤ 90000) : Calls Try.prog 48 #[.string s, .int .i64 i] w fun e w' =>
    e = .returned (pairV (betN s i)) ∧ w = w' := by
  have hb : ∀ (i : Nat) (h : i < s.size), (s[i]'h).toNat = bn s i := bn_eq s
  go_enter Try.func48, Try.ntmps48
  go_wp2
  go_loopw [1] (fun iv wr => ∃ j : Nat, i ≤ j ∧ j ≤ s.size ∧ Hid (betN s i = betN s j) ∧ iv = .int .i64 (j : Int) ∧ w = wr) (fun iv _ => s.size - (intOf iv).toNat)
  case atStart => exact ⟨i, by omega, hi, Lib.hid rfl, rfl, rfl⟩
  case round =>
    obtain ⟨j, hij, hj, hr, rfl, rfl⟩ := hrel
    by_cases h7 : j < s.size
    · have h7' : (j : Int) < (s.size : Int) := by omega
      have HE := Lib.hid (hr.out.trans (betN_eq h7))
      clear hr
      go_wp2_with fail
      refine (blank_any (bn s j) _).mono ?_
      rintro e w1 ⟨rfl, rfl⟩
      cases hbl : blankB (bn s j) with
      | true =>
        have HR := Lib.hid (show betN s i = betN s (j + 1) by rw [HE.out, hbl]; rfl)
        clear HE
        go_wp2_with fail
        go_roundw
        case rel => exact ⟨j + 1, by omega, by omega, HR, by go_num, by trivial⟩
        case measure => simp [intOf]; omega
      | false =>
        cases h37 : ((bn s j : Int) == 37) with
        | true =>
          have HR := Lib.hid (show betN s i = betN s (lineN s j) by rw [HE.out, hbl, h37]; rfl)
          clear HE
          go_wp2_with fail
          go_loopw [1] (fun iv wr => ∃ k : Nat, j ≤ k ∧ k ≤ s.size ∧ Hid (lineN s j = lineN s k) ∧ iv = .int .i64 (k : Int) ∧ w = wr) (fun iv _ => s.size - (intOf iv).toNat)
          case atStart => exact ⟨j, by omega, hj, Lib.hid rfl, rfl, rfl⟩
          case round =>
            obtain ⟨k, hjk, hk, hl, rfl, rfl⟩ := hrel
            by_cases hks : k < s.size
            · have hks' : (k : Int) < (s.size : Int) := by omega
              cases hk10 : ((bn s k : Int) != 10) with
              | true =>
                have HL := Lib.hid (hl.out.trans (lineN_step hks hk10))
                clear hl
                go_wp2_with fail
                go_roundw
                case rel => exact ⟨k + 1, by omega, by omega, HL, by go_num, by trivial⟩
                case measure => simp [intOf]; omega
              | false =>
                have HL := Lib.hid (hl.out.trans (lineN_stop hk10))
                clear hl
                have hne : j < k := by
                  rcases Nat.lt_or_ge j k with h | h
                  · exact h
                  · obtain rfl : j = k := by omega
                    simp at h37 hk10
                    omega
                go_wp2_with fail
                go_roundw
                case rel => exact ⟨k, by omega, by omega, Lib.hid (by rw [HR.out, HL.out]), by go_num, by trivial⟩
                case measure => simp [intOf]; omega
            · obtain rfl : k = s.size := by omega
              have HL := Lib.hid (hl.out.trans (lineN_end (Nat.le_refl _)))
              clear hl
              go_wp2_with fail
              go_roundw
              case rel => exact ⟨s.size, by omega, by omega, Lib.hid (by rw [HR.out, HL.out]), by go_num, by trivial⟩
              case measure => simp [intOf]; omega
        | false =>
          go_wp2_with fail
          refine (two_any s j 47 42 _ (by omega)).mono ?_
          rintro e w1 ⟨rfl, rfl⟩
          cases h2 : twoB s j 47 42 with
          | false =>
            have HR := Lib.hid (show betN s i = (j, true) by rw [HE.out, hbl, h37, h2]; rfl)
            clear HE
            go_wp2_with fail
            go_ret2
            exact ⟨by rw [HR.out]; rfl, rfl⟩
          | true =>
            have hj1 := twoB_lt h2
            have HR := Lib.hid (show betN s i = (if endN s (j + 2) < s.size then betN s (endN s (j + 2) + 2) else (j, false)) by rw [HE.out, hbl, h37, h2]; rfl)
            clear HE
            go_wp2_with fail
            go_loopw [6] (fun iv wr => ∃ k : Nat, j < k ∧ k ≤ s.size ∧ Hid (endN s (j + 2) = endN s k) ∧ iv = .int .i64 (k : Int) ∧ w = wr) (fun iv _ => s.size - (intOf iv).toNat)
            case atStart => exact ⟨j + 2, by omega, by omega, Lib.hid rfl, by go_num, by trivial⟩
            case round =>
              obtain ⟨k, hjk, hk, hl, rfl, rfl⟩ := hrel
              by_cases hks : k < s.size
              · have hks' : (k : Int) < (s.size : Int) := by omega
                go_wp2_with fail
                refine (two_any s k 42 47 _ (by omega)).mono ?_
                rintro e w1 ⟨rfl, rfl⟩
                cases h3 : twoB s k 42 47 with
                | false =>
                  have HL := Lib.hid (hl.out.trans (endN_step hks h3))
                  clear hl
                  go_wp2_with fail
                  go_roundw
                  case rel => exact ⟨k + 1, by omega, by omega, HL, by go_num, by trivial⟩
                  case measure => simp [intOf]; omega
                | true =>
                  have hk1 := twoB_lt h3
                  have HL := Lib.hid (hl.out.trans (endN_stop h3))
                  clear hl
                  go_wp2_with fail
                  go_roundw
                  case rel => exact ⟨k + 2, by omega, by omega, Lib.hid (by rw [HR.out, HL.out, if_pos hks]), by go_num, by trivial⟩
                  case measure => simp [intOf]; omega
              · obtain rfl : k = s.size := by omega
                have HL := Lib.hid (hl.out.trans (endN_end (Nat.le_refl _)))
                clear hl
                go_wp2_with fail
                go_ret2
                exact ⟨by rw [HR.out, HL.out, if_neg (Nat.lt_irrefl _)]; rfl, rfl⟩
    · obtain rfl : j = s.size := by omega
      have HR := Lib.hid (hr.out.trans (betN_end (Nat.le_refl _)))
      clear hr
      go_wp2
      go_ret2
      exact ⟨by rw [HR.out]; rfl, rfl⟩
end Go.Proofs.Ytlgeepjlnjlgdaa
