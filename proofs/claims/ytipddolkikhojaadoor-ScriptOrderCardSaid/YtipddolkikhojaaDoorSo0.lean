/- ScriptOrder's own small function: has a text a feed. -/
import Derived.Test.YtipddolkikhojaaDoorRs
namespace Go.Proofs.YtipddolkikhojaaDoor
open Go.RowKit
set_option maxRecDepth 100000 in
set_option maxHeartbeats 2000000 in
theorem lfeeds_any (s : ByteArray) (w : World) (hs : s.size ≤ 100000000) : Calls Tryd.prog 13 #[.string s] w fun e w' => e = .returned (.bool (decide (0 < feedsF s s.size))) ∧ Below w.heap.size w w' := by
  have hb : ∀ (i : Nat) (h : i < s.size), (s[i]'h).toNat = bn s i := bn_eq s
  have mono : ∀ i j, i ≤ j → feedsF s i ≤ feedsF s j := fun i j h => by
    induction h with
    | refl => exact Nat.le_refl _
    | step _ ih => exact Nat.le_trans ih (Nat.le_add_right _ _)
  have MONO := Lib.hid mono
  clear mono
  go_enter Tryd.func13, Tryd.ntmps13
  go_wp2
  go_loopw [2, 3] (fun rv iv wr => rv = .bool false ∧ ∃ i : Nat, iv = .int .i64 (i : Int) ∧ i ≤ s.size ∧ Hid (feedsF s i = 0) ∧ w = wr) (fun _ iv _ => s.size - (intOf iv).toNat)
  case atStart => exact ⟨rfl, 0, rfl, Nat.zero_le _, Lib.hid rfl, rfl⟩
  case round =>
    obtain ⟨rfl, i, rfl, hi, hn, rfl⟩ := hrel
    have HN := Lib.hid hn.out
    clear hn
    by_cases hle : i < s.size
    · have hle' : (i : Int) < (s.size : Int) := by omega
      cases h32 : ((bn s i : Int) == 10) with
      | true =>
        have HN2 := Lib.hid (show 0 < feedsF s s.size from Nat.lt_of_lt_of_le (by unfold feedsF; rw [if_pos (feed_bu.1 h32)]; omega) (MONO.out (i + 1) s.size hle))
        go_wp2
        go_ret
        exact ⟨by rw [decide_eq_true HN2.out]; rfl, Below.refl _ _⟩
      | false =>
        have HN2 := Lib.hid (show feedsF s (i + 1) = 0 by unfold feedsF; rw [if_neg (fun e => by rw [feed_bu.2 e] at h32; cases h32), HN.out])
        go_wp2
        go_roundw
        case rel => exact ⟨rfl, i + 1, by go_num, hle, HN2, trivial⟩
        case measure => simp [intOf] <;> omega
    · obtain rfl : s.size = i := by omega
      go_wp2
      go_ret
      exact ⟨by rw [HN.out]; rfl, Below.refl _ _⟩
end Go.Proofs.YtipddolkikhojaaDoor
