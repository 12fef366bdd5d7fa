/- The reference's lexer: its tests of one byte. -/
import Derived.WalkKit
import Derived.Test.YtlogcealmiokkaaGreatDoorKGb
import Derived.Test.YtlogcealmiokkaaGreatDoorProg
import Derived.Lib.Hide
import Derived.Below
import Derived.Laws.Rows
namespace Go.Proofs.YtlogcealmiokkaaGreatDoor
open Go.RowKit
set_option maxHeartbeats 1000000 in
theorem small_any (c : Int) (w : World) : Calls Tryz.prog 35 #[.int .u8 c] w fun e w' => e = .returned (.bool (smallB c)) ∧ w = w' := by
 by_cases h1 : 97 ≤ c <;> by_cases h2 : c ≤ 122
 all_goals
  go_enter Tryz.func35, Tryz.ntmps35
  go_wp2
  go_ret
  exact ⟨by simp [smallB, h1, h2], rfl⟩
set_option maxHeartbeats 1000000 in
theorem great_any (c : Int) (w : World) : Calls Tryz.prog 37 #[.int .u8 c] w fun e w' => e = .returned (.bool (greatB c)) ∧ w = w' := by
 by_cases h1 : 65 ≤ c <;> by_cases h2 : c ≤ 90 <;> by_cases h3 : c = 95
 all_goals
  have h4 : (c == 95) = decide (c = 95) := rfl
  first | (subst h3) | skip
  go_enter Tryz.func37, Tryz.ntmps37
  go_wp2
  go_ret
  exact ⟨by simp [greatB, *], rfl⟩
set_option maxHeartbeats 1000000 in
theorem digit_any (c : Int) (w : World) : Calls Tryz.prog 38 #[.int .u8 c] w fun e w' => e = .returned (.bool (digitB c)) ∧ w = w' := by
 by_cases h1 : 48 ≤ c <;> by_cases h2 : c ≤ 57
 all_goals
  go_enter Tryz.func38, Tryz.ntmps38
  go_wp2
  go_ret
  exact ⟨by simp [digitB, h1, h2], rfl⟩
set_option maxHeartbeats 1000000 in
theorem named_any (c : Int) (w : World) : Calls Tryz.prog 58 #[.int .u8 c] w fun e w' => e = .returned (.bool (namedB c)) ∧ w = w' := by
 cases h1 : smallB c <;> cases h2 : greatB c <;> cases h3 : digitB c
 all_goals
  go_enter Tryz.func58, Tryz.ntmps58
  go_wp2_with (first | (go_at_call 35; refine (small_any c _).mono ?_; rintro e w1 ⟨rfl, rfl⟩) | (go_at_call 37; refine (great_any c _).mono ?_; rintro e w1 ⟨rfl, rfl⟩) | (go_at_call 38; refine (digit_any c _).mono ?_; rintro e w1 ⟨rfl, rfl⟩))
  go_ret
  exact ⟨by simp [namedB, h1, h2, h3], rfl⟩
set_option maxHeartbeats 1000000 in
theorem blank_any (c : Int) (w : World) : Calls Tryz.prog 34 #[.int .u8 c] w fun e w' => e = .returned (.bool (blankB c)) ∧ w = w' := by
 cases h32 : (c == 32)
 case true =>
  go_enter Tryz.func34, Tryz.ntmps34
  go_wp2
  go_ret
  exact ⟨by rw [show blankB c = true by unfold blankB; rw [h32]; rfl]; rfl, rfl⟩
 cases h9 : (c == 9)
 case true =>
  go_enter Tryz.func34, Tryz.ntmps34
  go_wp2
  go_ret
  exact ⟨by rw [show blankB c = true by unfold blankB; rw [h32, h9]; rfl]; rfl, rfl⟩
 cases h10 : (c == 10)
 case true =>
  go_enter Tryz.func34, Tryz.ntmps34
  go_wp2
  go_ret
  exact ⟨by rw [show blankB c = true by unfold blankB; rw [h32, h9, h10]; rfl]; rfl, rfl⟩
 cases h13 : (c == 13)
 case true =>
  go_enter Tryz.func34, Tryz.ntmps34
  go_wp2
  go_ret
  exact ⟨by rw [show blankB c = true by unfold blankB; rw [h32, h9, h10, h13]; rfl]; rfl, rfl⟩
 go_enter Tryz.func34, Tryz.ntmps34
 go_wp2
 go_ret
 exact ⟨by rw [show blankB c = false by unfold blankB; rw [h32, h9, h10, h13]; rfl]; rfl, rfl⟩
set_option maxHeartbeats 1000000 in
theorem lmark_any (c : Int) (w : World) : Calls Tryz.prog 40 #[.int .u8 c] w fun e w' => e = .returned (.bool (markB c)) ∧ w = w' := by
 cases h40 : (c == 40)
 case true =>
  go_enter Tryz.func40, Tryz.ntmps40
  go_wp2
  go_ret
  exact ⟨by rw [show markB c = true by unfold markB; rw [h40]; rfl]; rfl, rfl⟩
 cases h41 : (c == 41)
 case true =>
  go_enter Tryz.func40, Tryz.ntmps40
  go_wp2
  go_ret
  exact ⟨by rw [show markB c = true by unfold markB; rw [h40, h41]; rfl]; rfl, rfl⟩
 cases h91 : (c == 91)
 case true =>
  go_enter Tryz.func40, Tryz.ntmps40
  go_wp2
  go_ret
  exact ⟨by rw [show markB c = true by unfold markB; rw [h40, h41, h91]; rfl]; rfl, rfl⟩
 cases h93 : (c == 93)
 case true =>
  go_enter Tryz.func40, Tryz.ntmps40
  go_wp2
  go_ret
  exact ⟨by rw [show markB c = true by unfold markB; rw [h40, h41, h91, h93]; rfl]; rfl, rfl⟩
 cases h123 : (c == 123)
 case true =>
  go_enter Tryz.func40, Tryz.ntmps40
  go_wp2
  go_ret
  exact ⟨by rw [show markB c = true by unfold markB; rw [h40, h41, h91, h93, h123]; rfl]; rfl, rfl⟩
 cases h125 : (c == 125)
 case true =>
  go_enter Tryz.func40, Tryz.ntmps40
  go_wp2
  go_ret
  exact ⟨by rw [show markB c = true by unfold markB; rw [h40, h41, h91, h93, h123, h125]; rfl]; rfl, rfl⟩
 cases h44 : (c == 44)
 case true =>
  go_enter Tryz.func40, Tryz.ntmps40
  go_wp2
  go_ret
  exact ⟨by rw [show markB c = true by unfold markB; rw [h40, h41, h91, h93, h123, h125, h44]; rfl]; rfl, rfl⟩
 cases h124 : (c == 124)
 case true =>
  go_enter Tryz.func40, Tryz.ntmps40
  go_wp2
  go_ret
  exact ⟨by rw [show markB c = true by unfold markB; rw [h40, h41, h91, h93, h123, h125, h44, h124]; rfl]; rfl, rfl⟩
 go_enter Tryz.func40, Tryz.ntmps40
 go_wp2
 go_ret
 exact ⟨by rw [show markB c = false by unfold markB; rw [h40, h41, h91, h93, h123, h125, h44, h124]; rfl]; rfl, rfl⟩
set_option maxHeartbeats 1000000 in
theorem sign_any (c : Int) (w : World) : Calls Tryz.prog 39 #[.int .u8 c] w fun e w' => e = .returned (.bool (signB c)) ∧ w = w' := by
 go_enter Tryz.func39, Tryz.ntmps39
 have hb : ∀ (i : Nat) (h : i < ({ data := #[43, 45, 42, 47, 92, 94, 60, 62, 61, 58, 46, 63, 64, 35, 36, 38, 126] } : ByteArray).size), (({ data := #[43, 45, 42, 47, 92, 94, 60, 62, 61, 58, 46, 63, 64, 35, 36, 38, 126] } : ByteArray)[i]'h).toNat = bn slit i := fun i h => bn_eq _ i h
 have hl : ({ data := #[43, 45, 42, 47, 92, 94, 60, 62, 61, 58, 46, 63, 64, 35, 36, 38, 126] } : ByteArray).size = 17 := rfl
 go_wp2
 go_loopw [4] (fun iv wr => ∃ i : Nat, i ≤ 17 ∧ iv = .int .i64 (i : Int) ∧ (∀ j, j < i → ¬ (bn slit j : Int) = c) ∧ w = wr) (fun iv _ => 17 - (intOf iv).toNat)
 case atStart => exact ⟨0, by omega, rfl, fun j hj => absurd hj (by omega), rfl⟩
 case round =>
  obtain ⟨i, hi, rfl, hn, rfl⟩ := hrel
  have HN := Lib.hid hn
  clear hn
  by_cases h7 : i < 17
  ·have h7' : (i : Int) < 17 := by omega
   by_cases he : (bn slit i : Int) = c
   ·have he' : ((bn slit i : Int) == c) = true := by simpa using he
    go_wp2
    go_ret
    refine ⟨?_, rfl⟩
    have : signB c = true := by simp only [signB, List.any_eq_true, List.mem_range]; exact ⟨i, h7, by simpa using he⟩
    exact congrArg (fun b => Ending.returned (Value.bool b)) this.symm
   ·have he' : ((bn slit i : Int) == c) = false := by simpa using he
    go_wp2
    go_roundw
    case rel => exact ⟨i + 1, by omega, by go_num, fun j hj => (by rcases (by omega : j < i ∨ j = i) with h | rfl; exact HN.out j h; exact he), by trivial⟩
    case measure => simp [intOf]; omega
  ·obtain rfl : i = 17 := by omega
   go_wp2
   go_ret
   refine ⟨?_, rfl⟩
   have : signB c = false := by
    rw [Bool.eq_false_iff]
    intro h
    simp only [signB, List.any_eq_true, List.mem_range] at h
    obtain ⟨j, hj, h⟩ := h
    exact HN.out j hj (by simpa using h)
   exact congrArg (fun b => Ending.returned (Value.bool b)) this.symm
theorem two_any (s : ByteArray) (i : Nat) (a b : Int) (w : World) (hi : i ≤ 100000) : Calls Tryz.prog 57 #[.string s, .int .i64 i, .int .u8 a, .int .u8 b] w fun e w' => e = .returned (.bool (twoB s i a b)) ∧ w = w' := by
 have hb : ∀ (i : Nat) (h : i < s.size), (s[i]'h).toNat = bn s i := bn_eq s
 by_cases h1 : i + 1 < s.size
 ·have h0 : i < s.size := by omega
  have h1' : (i : Int) + 1 < (s.size : Int) := by omega
  have h2 : ((i : Int) + 1).toNat = i + 1 := by omega
  cases h3 : ((bn s i : Int) == a)
  case false =>
   go_enter Tryz.func57, Tryz.ntmps57
   go_wp2
   go_ret
   exact ⟨by rw [show twoB s i a b = false by unfold twoB; rw [h3, Bool.and_false, Bool.false_and]]; rfl, rfl⟩
  obtain ⟨v4, h4⟩ : ∃ v, ((bn s (i + 1) : Int) == b) = v := ⟨_, rfl⟩
  have e : twoB s i a b = v4 := by unfold twoB; rw [h3, h4, decide_eq_true h1]; rfl
  rw [e]
  clear e
  cases v4
  all_goals
   go_enter Tryz.func57, Tryz.ntmps57
   go_wp2
   go_ret
   exact ⟨rfl, rfl⟩
 ·have h1' : ¬ (i : Int) + 1 < (s.size : Int) := by omega
  have e : twoB s i a b = false := by simp only [twoB, decide_eq_false h1, Bool.false_and]
  go_enter Tryz.func57, Tryz.ntmps57
  go_wp2
  go_ret
  exact ⟨by first | rfl | (rw [e]; rfl), rfl⟩
theorem run_any (s : ByteArray) (i : Nat) (k : Int) (w : World) (hk : k = 1 ∨ k = 2 ∨ k = 3) (hi : i ≤ s.size) (hs : s.size ≤ 100000) : Calls Tryz.prog 36 #[.string s, .int .i64 i, .int .i64 k] w fun e w' =>
 e = .returned (.int .i64 (runN k s i : Int)) ∧ w = w' := by
 have hb : ∀ (i : Nat) (h : i < s.size), (s[i]'h).toNat = bn s i := bn_eq s
 rcases hk with rfl | rfl | rfl
 ·go_enter Tryz.func36, Tryz.ntmps36
  go_wp2
  go_loopw [1] (fun iv wr => ∃ j : Nat, i ≤ j ∧ j ≤ s.size ∧ Hid (runN 1 s i = runN 1 s j) ∧ iv = .int .i64 (j : Int) ∧ w = wr) (fun iv _ => s.size - (intOf iv).toNat)
  case atStart => exact ⟨i, by omega, hi, Lib.hid rfl, rfl, rfl⟩
  case round =>
   obtain ⟨j, hij, hj, hr, rfl, rfl⟩ := hrel
   by_cases h7 : j < s.size
   ·have h7' : (j : Int) < (s.size : Int) := by omega
    cases hn : namedB (bn s j) with
    | true =>
     go_wp2_with (go_at_call 58; refine (named_any (bn s j) _).mono ?_; rintro e w1 ⟨rfl, rfl⟩)
     go_roundw
     case rel => exact ⟨j + 1, by omega, by omega, Lib.hid (hr.out.trans (runN_step h7 (by simp [kindB, hn]))), by go_num, by trivial⟩
     case measure => simp [intOf]; omega
    | false =>
     have he := Lib.hid (hr.out.trans (runN_stop (k := 1) (by simp [kindB, hn])))
     go_wp2_with (go_at_call 58; refine (named_any (bn s j) _).mono ?_; rintro e w1 ⟨rfl, rfl⟩)
     go_ret
     exact ⟨by rw [he.out]; rfl, rfl⟩
   ·obtain rfl : j = s.size := by omega
    have he := Lib.hid (hr.out.trans (runN_end (k := 1) (Nat.le_refl _)))
    go_wp2
    go_ret
    exact ⟨by rw [he.out]; rfl, rfl⟩
 ·go_enter Tryz.func36, Tryz.ntmps36
  go_wp2
  go_loopw [1] (fun iv wr => ∃ j : Nat, i ≤ j ∧ j ≤ s.size ∧ Hid (runN 2 s i = runN 2 s j) ∧ iv = .int .i64 (j : Int) ∧ w = wr) (fun iv _ => s.size - (intOf iv).toNat)
  case atStart => exact ⟨i, by omega, hi, Lib.hid rfl, rfl, rfl⟩
  case round =>
   obtain ⟨j, hij, hj, hr, rfl, rfl⟩ := hrel
   by_cases h7 : j < s.size
   ·have h7' : (j : Int) < (s.size : Int) := by omega
    cases hn : digitB (bn s j) with
    | true =>
     go_wp2_with (go_at_call 38; refine (digit_any (bn s j) _).mono ?_; rintro e w1 ⟨rfl, rfl⟩)
     go_roundw
     case rel => exact ⟨j + 1, by omega, by omega, Lib.hid (hr.out.trans (runN_step h7 (by simp [kindB, hn]))), by go_num, by trivial⟩
     case measure => simp [intOf]; omega
    | false =>
     have he := Lib.hid (hr.out.trans (runN_stop (k := 2) (by simp [kindB, hn])))
     go_wp2_with (go_at_call 38; refine (digit_any (bn s j) _).mono ?_; rintro e w1 ⟨rfl, rfl⟩)
     go_ret
     exact ⟨by rw [he.out]; rfl, rfl⟩
   ·obtain rfl : j = s.size := by omega
    have he := Lib.hid (hr.out.trans (runN_end (k := 2) (Nat.le_refl _)))
    go_wp2
    go_ret
    exact ⟨by rw [he.out]; rfl, rfl⟩
 ·go_enter Tryz.func36, Tryz.ntmps36
  go_wp2
  go_loopw [1] (fun iv wr => ∃ j : Nat, i ≤ j ∧ j ≤ s.size ∧ Hid (runN 3 s i = runN 3 s j) ∧ iv = .int .i64 (j : Int) ∧ w = wr) (fun iv _ => s.size - (intOf iv).toNat)
  case atStart => exact ⟨i, by omega, hi, Lib.hid rfl, rfl, rfl⟩
  case round =>
   obtain ⟨j, hij, hj, hr, rfl, rfl⟩ := hrel
   by_cases h7 : j < s.size
   ·have h7' : (j : Int) < (s.size : Int) := by omega
    cases hn : signB (bn s j) with
    | true =>
     go_wp2_with (go_at_call 39; refine (sign_any (bn s j) _).mono ?_; rintro e w1 ⟨rfl, rfl⟩)
     go_roundw
     case rel => exact ⟨j + 1, by omega, by omega, Lib.hid (hr.out.trans (runN_step h7 (by simp [kindB, hn]))), by go_num, by trivial⟩
     case measure => simp [intOf]; omega
    | false =>
     have he := Lib.hid (hr.out.trans (runN_stop (k := 3) (by simp [kindB, hn])))
     go_wp2_with (go_at_call 39; refine (sign_any (bn s j) _).mono ?_; rintro e w1 ⟨rfl, rfl⟩)
     go_ret
     exact ⟨by rw [he.out]; rfl, rfl⟩
   ·obtain rfl : j = s.size := by omega
    have he := Lib.hid (hr.out.trans (runN_end (k := 3) (Nat.le_refl _)))
    go_wp2
    go_ret
    exact ⟨by rw [he.out]; rfl, rfl⟩
end Go.Proofs.YtlogcealmiokkaaGreatDoor
