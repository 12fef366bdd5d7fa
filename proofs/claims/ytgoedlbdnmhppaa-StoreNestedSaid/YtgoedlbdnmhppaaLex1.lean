/- The reference's lexer: its tests of one byte. -/
import Derived.WalkKit
import Derived.Test.YtgoedlbdnmhppaaProg
import Derived.Lib.Hide
import Derived.Below
import Derived.Laws.Rows
namespace Go.Proofs.Ytgoedlbdnmhppaa
open Go.RowKit

/-- The byte of a text at a place (0 behind its end). -/
def bn (s : ByteArray) (i : Nat) : Nat := (s.data.toList.getD i 0).toNat
theorem bn_eq (s : ByteArray) (i : Nat) (h : i < s.size) : (s[i]'h).toNat = bn s i := by
  obtain ⟨⟨l⟩⟩ := s
  have hl : i < l.length := h
  have e : (ByteArray.mk ⟨l⟩)[i]'h = l.getD i 0 := by
    simp only [List.getD, List.getElem?_eq_getElem hl, Option.getD_some]
    rfl
  simp [bn, e]
theorem bn_lt (s : ByteArray) (i : Nat) : bn s i < 256 := by
  unfold bn
  exact UInt8.toNat_lt _

def smallB (c : Int) : Bool := decide (97 ≤ c) && decide (c ≤ 122)
def greatB (c : Int) : Bool := (decide (65 ≤ c) && decide (c ≤ 90)) || decide (c = 95)
def digitB (c : Int) : Bool := decide (48 ≤ c) && decide (c ≤ 57)
def namedB (c : Int) : Bool := smallB c || greatB c || digitB c
def slit : ByteArray := { data := #[43, 45, 42, 47, 92, 94, 60, 62, 61, 58, 46, 63, 64, 35, 36, 38, 126] }
def signB (c : Int) : Bool := (List.range 17).any fun j => decide ((bn slit j : Int) = c)
def kindB (k c : Int) : Bool := (decide (k = 1) && namedB c) || (decide (k = 2) && digitB c) || (decide (k = 3) && signB c)

set_option maxHeartbeats 1000000 in
theorem small_any (c : Int) (w : World) : Calls Try.prog 63 #[.int .u8 c] w fun e w' => e = .returned (.bool (smallB c)) ∧ w = w' := by
  by_cases h1 : 97 ≤ c <;> by_cases h2 : c ≤ 122
  all_goals
    go_enter Try.func63, Try.ntmps63
    go_wp2
    go_ret
    exact ⟨by simp [smallB, h1, h2], rfl⟩
set_option maxHeartbeats 1000000 in
theorem great_any (c : Int) (w : World) : Calls Try.prog 65 #[.int .u8 c] w fun e w' => e = .returned (.bool (greatB c)) ∧ w = w' := by
  by_cases h1 : 65 ≤ c <;> by_cases h2 : c ≤ 90 <;> by_cases h3 : c = 95
  all_goals
    have h4 : (c == 95) = decide (c = 95) := rfl
    first | (subst h3) | skip
    go_enter Try.func65, Try.ntmps65
    go_wp2
    go_ret
    exact ⟨by simp [greatB, *], rfl⟩
set_option maxHeartbeats 1000000 in
theorem digit_any (c : Int) (w : World) : Calls Try.prog 66 #[.int .u8 c] w fun e w' => e = .returned (.bool (digitB c)) ∧ w = w' := by
  by_cases h1 : 48 ≤ c <;> by_cases h2 : c ≤ 57
  all_goals
    go_enter Try.func66, Try.ntmps66
    go_wp2
    go_ret
    exact ⟨by simp [digitB, h1, h2], rfl⟩
set_option maxHeartbeats 1000000 in
theorem named_any (c : Int) (w : World) : Calls Try.prog 76 #[.int .u8 c] w fun e w' => e = .returned (.bool (namedB c)) ∧ w = w' := by
  cases h1 : smallB c <;> cases h2 : greatB c <;> cases h3 : digitB c
  all_goals
    go_enter Try.func76, Try.ntmps76
    go_wp2_with (first | (go_at_call 63; refine (small_any c _).mono ?_; rintro e w1 ⟨rfl, rfl⟩) | (go_at_call 65; refine (great_any c _).mono ?_; rintro e w1 ⟨rfl, rfl⟩) | (go_at_call 66; refine (digit_any c _).mono ?_; rintro e w1 ⟨rfl, rfl⟩))
    go_ret
    exact ⟨by simp [namedB, h1, h2, h3], rfl⟩
set_option maxHeartbeats 1000000 in
theorem blank_any (c : Int) (w : World) : Calls Try.prog 62 #[.int .u8 c] w fun e w' => (∃ b, e = .returned (.bool b)) ∧ w = w' := by
  go_enter Try.func62, Try.ntmps62
  go_wp2
  all_goals
    go_ret
    exact ⟨⟨_, rfl⟩, rfl⟩
set_option maxHeartbeats 1000000 in
theorem lmark_any (c : Int) (w : World) : Calls Try.prog 68 #[.int .u8 c] w fun e w' => (∃ b, e = .returned (.bool b)) ∧ w = w' := by
  go_enter Try.func68, Try.ntmps68
  go_wp2
  all_goals
    go_ret
    exact ⟨⟨_, rfl⟩, rfl⟩
set_option maxHeartbeats 1000000 in
theorem sign_any (c : Int) (w : World) : Calls Try.prog 67 #[.int .u8 c] w fun e w' => e = .returned (.bool (signB c)) ∧ w = w' := by
  go_enter Try.func67, Try.ntmps67
  have hb : ∀ (i : Nat) (h : i < ({ data := #[43, 45, 42, 47, 92, 94, 60, 62, 61, 58, 46, 63, 64, 35, 36, 38, 126] } : ByteArray).size), (({ data := #[43, 45, 42, 47, 92, 94, 60, 62, 61, 58, 46, 63, 64, 35, 36, 38, 126] } : ByteArray)[i]'h).toNat = bn slit i := fun i h => bn_eq _ i h
  have hl : ({ data := #[43, 45, 42, 47, 92, 94, 60, 62, 61, 58, 46, 63, 64, 35, 36, 38, 126] } : ByteArray).size = 17 := rfl
  go_wp2
  go_loopw [4] (fun iv wr => ∃ i : Nat, i ≤ 17 ∧ iv = .int .i64 (i : Int) ∧ (∀ j, j < i → ¬ (bn slit j : Int) = c) ∧ w = wr) (fun iv _ => 17 - (intOf iv).toNat)
  case atStart => exact ⟨0, by omega, rfl, fun j hj => absurd hj (by omega), rfl⟩
  case round =>
    obtain ⟨i, hi, rfl, hn, rfl⟩ := hrel
    have HN := Lib.hid hn
    clear hn
    by_cases h7 : i < 17
    · have h7' : (i : Int) < 17 := by omega
      by_cases he : (bn slit i : Int) = c
      · have he' : ((bn slit i : Int) == c) = true := by simpa using he
        go_wp2
        go_ret
        refine ⟨?_, rfl⟩
        have : signB c = true := by simp only [signB, List.any_eq_true, List.mem_range]; exact ⟨i, h7, by simpa using he⟩
        exact congrArg (fun b => Ending.returned (Value.bool b)) this.symm
      · have he' : ((bn slit i : Int) == c) = false := by simpa using he
        go_wp2
        go_roundw
        case rel => exact ⟨i + 1, by omega, by go_num, fun j hj => (by rcases (by omega : j < i ∨ j = i) with h | rfl; exact HN.out j h; exact he), by trivial⟩
        case measure => simp [intOf]; omega
    · obtain rfl : i = 17 := by omega
      go_wp2
      go_ret
      refine ⟨?_, rfl⟩
      have : signB c = false := by
        rw [Bool.eq_false_iff]
        intro h
        simp only [signB, List.any_eq_true, List.mem_range] at h
        obtain ⟨j, hj, h⟩ := h
        exact HN.out j hj (by simpa using h)
      exact congrArg (fun b => Ending.returned (Value.bool b)) this.symm
/-- Two bytes at a place. -/
theorem two_any (s : ByteArray) (i : Nat) (a b : Int) (w : World) (hi : i ≤ 100000) : Calls Try.prog 75 #[.string s, .int .i64 i, .int .u8 a, .int .u8 b] w fun e w' => (∃ b, e = .returned (.bool b) ∧ (b = true → i + 1 < s.size)) ∧ w = w' := by
  have hb : ∀ (i : Nat) (h : i < s.size), (s[i]'h).toNat = bn s i := bn_eq s
  by_cases h1 : i + 1 < s.size
  · have h0 : i < s.size := by omega
    have h1' : (i : Int) + 1 < (s.size : Int) := by omega
    have h2 : ((i : Int) + 1).toNat = i + 1 := by omega
    go_enter Try.func75, Try.ntmps75
    go_wp2
    all_goals
      go_ret
      exact ⟨⟨_, rfl, fun _ => h1⟩, rfl⟩
  · have h1' : ¬ (i : Int) + 1 < (s.size : Int) := by omega
    go_enter Try.func75, Try.ntmps75
    go_wp2
    go_ret
    exact ⟨rfl, rfl⟩
/-- The place behind all bytes of a kind. -/
theorem run_any (s : ByteArray) (i : Nat) (k : Int) (w : World) (hk : k = 1 ∨ k = 2 ∨ k = 3) (hi : i ≤ s.size) (hs : s.size ≤ 100000) : Calls Try.prog 64 #[.string s, .int .i64 i, .int .i64 k] w fun e w' =>
    (∃ j : Nat, e = .returned (.int .i64 j) ∧ i ≤ j ∧ j ≤ s.size ∧ (i < s.size → kindB k (bn s i) = true → i < j)) ∧ w = w' := by
  have hb : ∀ (i : Nat) (h : i < s.size), (s[i]'h).toNat = bn s i := bn_eq s
  rcases hk with rfl | rfl | rfl
  · go_enter Try.func64, Try.ntmps64
    go_wp2
    go_loopw [1] (fun iv wr => ∃ j : Nat, i ≤ j ∧ j ≤ s.size ∧ iv = .int .i64 (j : Int) ∧ w = wr) (fun iv _ => s.size - (intOf iv).toNat)
    case atStart => exact ⟨i, by omega, hi, rfl, rfl⟩
    case round =>
      obtain ⟨j, hij, hj, rfl, rfl⟩ := hrel
      by_cases h7 : j < s.size
      · have h7' : (j : Int) < (s.size : Int) := by omega
        cases hn : namedB (bn s j) with
        | true =>
          go_wp2_with (go_at_call 76; refine (named_any (bn s j) _).mono ?_; rintro e w1 ⟨rfl, rfl⟩)
          go_roundw
          case rel => exact ⟨j + 1, by omega, by omega, by go_num, by trivial⟩
          case measure => simp [intOf]; omega
        | false =>
          go_wp2_with (go_at_call 76; refine (named_any (bn s j) _).mono ?_; rintro e w1 ⟨rfl, rfl⟩)
          go_ret
          refine ⟨⟨j, rfl, hij, hj, fun _ hk => ?_⟩, rfl⟩
          rcases Nat.lt_or_ge i j with h | h
          · exact h
          · obtain rfl : i = j := by omega
            simp [kindB, hn] at hk
      · obtain rfl : j = s.size := by omega
        go_wp2
        go_ret
        exact ⟨⟨s.size, rfl, hij, Nat.le_refl _, fun h _ => h⟩, rfl⟩
  · go_enter Try.func64, Try.ntmps64
    go_wp2
    go_loopw [1] (fun iv wr => ∃ j : Nat, i ≤ j ∧ j ≤ s.size ∧ iv = .int .i64 (j : Int) ∧ w = wr) (fun iv _ => s.size - (intOf iv).toNat)
    case atStart => exact ⟨i, by omega, hi, rfl, rfl⟩
    case round =>
      obtain ⟨j, hij, hj, rfl, rfl⟩ := hrel
      by_cases h7 : j < s.size
      · have h7' : (j : Int) < (s.size : Int) := by omega
        cases hn : digitB (bn s j) with
        | true =>
          go_wp2_with (go_at_call 66; refine (digit_any (bn s j) _).mono ?_; rintro e w1 ⟨rfl, rfl⟩)
          go_roundw
          case rel => exact ⟨j + 1, by omega, by omega, by go_num, by trivial⟩
          case measure => simp [intOf]; omega
        | false =>
          go_wp2_with (go_at_call 66; refine (digit_any (bn s j) _).mono ?_; rintro e w1 ⟨rfl, rfl⟩)
          go_ret
          refine ⟨⟨j, rfl, hij, hj, fun _ hk => ?_⟩, rfl⟩
          rcases Nat.lt_or_ge i j with h | h
          · exact h
          · obtain rfl : i = j := by omega
            simp [kindB, hn] at hk
      · obtain rfl : j = s.size := by omega
        go_wp2
        go_ret
        exact ⟨⟨s.size, rfl, hij, Nat.le_refl _, fun h _ => h⟩, rfl⟩
  · go_enter Try.func64, Try.ntmps64
    go_wp2
    go_loopw [1] (fun iv wr => ∃ j : Nat, i ≤ j ∧ j ≤ s.size ∧ iv = .int .i64 (j : Int) ∧ w = wr) (fun iv _ => s.size - (intOf iv).toNat)
    case atStart => exact ⟨i, by omega, hi, rfl, rfl⟩
    case round =>
      obtain ⟨j, hij, hj, rfl, rfl⟩ := hrel
      by_cases h7 : j < s.size
      · have h7' : (j : Int) < (s.size : Int) := by omega
        cases hn : signB (bn s j) with
        | true =>
          go_wp2_with (go_at_call 67; refine (sign_any (bn s j) _).mono ?_; rintro e w1 ⟨rfl, rfl⟩)
          go_roundw
          case rel => exact ⟨j + 1, by omega, by omega, by go_num, by trivial⟩
          case measure => simp [intOf]; omega
        | false =>
          go_wp2_with (go_at_call 67; refine (sign_any (bn s j) _).mono ?_; rintro e w1 ⟨rfl, rfl⟩)
          go_ret
          refine ⟨⟨j, rfl, hij, hj, fun _ hk => ?_⟩, rfl⟩
          rcases Nat.lt_or_ge i j with h | h
          · exact h
          · obtain rfl : i = j := by omega
            simp [kindB, hn] at hk
      · obtain rfl : j = s.size := by omega
        go_wp2
        go_ret
        exact ⟨⟨s.size, rfl, hij, Nat.le_refl _, fun h _ => h⟩, rfl⟩
end Go.Proofs.Ytgoedlbdnmhppaa
