/- The reference's lexer: a quoted atom. -/
import Derived.Test.YtgoedlbdnmhppaaLex1
import Derived.Test.YtgoedlbdnmhppaaRow
namespace Go.Proofs.Ytgoedlbdnmhppaa
open Go.RowKit

/-- What the loop of 'quoted' has gathered. -/
structure QuoteRel (B : Nat) (W : World) (s : ByteArray) (i : Nat) (b iv : Value) (wr : World) (k n : Nat) (zs : List Int) : Prop where
  hi : iv = .int .i64 (k : Int)
  own : wr.ownsRow B 5 1 b n (zs.map (Value.int .u8))
  lo : i < k
  up : k ≤ s.size
  few : n ≤ k
  below : Below B W wr
theorem QuoteRel.step {B : Nat} {W : World} {s : ByteArray} {i : Nat} {b iv : Value} {wr w1 : World} {k n k' : Nat} {zs : List Int} {b' iv' : Value} {x : Int} (h : QuoteRel B W s i b iv wr k n zs)
    (hi' : iv' = .int .i64 (k' : Int)) (hown : w1.ownsRow B 5 1 b' (n + 1) (zs.map (Value.int .u8) ++ [.int .u8 x])) (hk : k < k') (hk' : k' ≤ s.size) (hb : Below B wr w1) :
    QuoteRel B W s i b' iv' w1 k' (n + 1) (zs ++ [x]) :=
  ⟨hi', by simpa using hown, by have := h.lo; omega, hk', by have := h.few; omega, h.below.trans hb⟩

set_option maxRecDepth 100000 in
set_option maxHeartbeats 4000000 in
theorem quoted_any (s : ByteArray) (i : Nat) (w : World) (hi : i < s.size) (hs : s.size ≤ 90000) : Calls Try.prog 69 #[.string s, .int .i64 i] w fun e w' =>
    (∃ (t : ByteArray) (j : Nat) (er : Int), e = .returned (.tuple #[.string t, .int .i64 j, .int .i64 er]) ∧ j ≤ s.size ∧ (er = 0 → i < j ∧ t.size ≤ s.size)) ∧ Below w.heap.size w w' := by
  have hb : ∀ (i : Nat) (h : i < s.size), (s[i]'h).toNat = bn s i := bn_eq s
  go_enter Try.func69, Try.ntmps69
  go_wp2
  go_loopw [7, 8] (fun b iv wr => ∃ k n zs, QuoteRel w.heap.size w s i b iv wr k n zs) (fun _ iv _ => s.size - (intOf iv).toNat)
  case atStart =>
    exact ⟨i + 1, 0, [], by go_num, ownsRow_empty _ _ _ _ (heap_alloc_new _ _), by omega, by omega, by omega, (Below.refl _ _).alloc (Nat.le_refl _) _⟩
  case round =>
    obtain ⟨k, n, zs, hr⟩ := hrel
    obtain rfl := hr.hi
    have R := Lib.hid hr
    have hk := hr.up
    have hlo := hr.lo
    have hfew := hr.few
    have hsz := hr.below.size
    clear hr
    by_cases h7 : k < s.size
    · have h7' : (k : Int) < (s.size : Int) := by omega
      go_wp2_with fail
      refine (two_any s k 39 39 _ (by omega)).mono ?_
      rintro e w1 ⟨⟨b2, rfl, h2⟩, rfl⟩
      cases b2 with
      | true =>
        have hk2 := h2 rfl
        clear h2
        go_wp2_with (at_builtin; go_must (refine wpList_push _ rfl _ _ _ rfl elU8 w.heap.size _ _ _ rfl (R.out.own.alloc _) _ _ (.int .u8 39) rfl (by simp [go_sem]) rfl (by omega) (by unfold maxLen; omega) (by simp; omega) ?_); intro v1 w1 hown1 hb1)
        have R1 := R.out.step (k' := k + 2) (iv' := .int .i64 ((k : Int) + 2)) (by go_num) hown1 (by omega) (by omega) (((Below.refl _ _).alloc (by omega) _).trans hb1)
        clear hown1 hb1
        go_wp2
        go_roundw
        case rel => exact ⟨_, _, _, R1⟩
        case measure => simp [intOf]; omega
      | false =>
        clear h2
        cases h39 : ((bn s k : Int) == 39) with
        | true =>
          obtain ⟨t, ht, hconv⟩ := own_string R.out.own
          go_wp2_with fail
          go_ret3
          exact ⟨⟨t, k + 1, 0, by first | rfl | (simp; done), by omega, fun _ => ⟨by omega, by omega⟩⟩, R.out.below⟩
        | false =>
          cases h92 : ((bn s k : Int) == 92) with
          | true =>
            by_cases hend : k + 1 = s.size
            · have hend' : ((k : Int) + 1 == (s.size : Int)) = true := by simp; omega
              go_wp2
              go_ret3
              exact ⟨⟨_, i, _, rfl, by omega, fun h => absurd h (by decide)⟩, R.out.below⟩
            · have hend' : ((k : Int) + 1 == (s.size : Int)) = false := by simp; omega
              have hk1 : k + 1 < s.size := by omega
              have hk2 : ((k : Int) + 1).toNat = k + 1 := by omega
              have hk1' : (k : Int) + 1 < (s.size : Int) := by omega
              cases e110 : ((bn s (k + 1) : Int) == 110) with
              | true =>
                go_wp2_with (at_builtin; go_must (refine wpList_push _ rfl _ _ _ rfl elU8 w.heap.size _ _ _ rfl (R.out.own.alloc _) _ _ (.int .u8 10) rfl (by simp [go_sem]) rfl (by omega) (by unfold maxLen; omega) (by simp; omega) ?_); intro v1 w1 hown1 hb1)
                have R1 := R.out.step (k' := k + 2) (iv' := .int .i64 ((k : Int) + 2)) (by go_num) hown1 (by omega) (by omega) (((Below.refl _ _).alloc (by omega) _).trans hb1)
                clear hown1 hb1
                go_wp2
                go_roundw
                case rel => exact ⟨_, _, _, R1⟩
                case measure => simp [intOf]; omega
              | false =>
                cases e116 : ((bn s (k + 1) : Int) == 116) with
                | true =>
                  go_wp2_with (at_builtin; go_must (refine wpList_push _ rfl _ _ _ rfl elU8 w.heap.size _ _ _ rfl (R.out.own.alloc _) _ _ (.int .u8 9) rfl (by simp [go_sem]) rfl (by omega) (by unfold maxLen; omega) (by simp; omega) ?_); intro v1 w1 hown1 hb1)
                  have R1 := R.out.step (k' := k + 2) (iv' := .int .i64 ((k : Int) + 2)) (by go_num) hown1 (by omega) (by omega) (((Below.refl _ _).alloc (by omega) _).trans hb1)
                  clear hown1 hb1
                  go_wp2
                  go_roundw
                  case rel => exact ⟨_, _, _, R1⟩
                  case measure => simp [intOf]; omega
                | false =>
                  cases e92 : ((bn s (k + 1) : Int) == 92) with
                  | true =>
                    go_wp2_with (at_builtin; go_must (refine wpList_push _ rfl _ _ _ rfl elU8 w.heap.size _ _ _ rfl (R.out.own.alloc _) _ _ (.int .u8 (bn s (k + 1))) rfl (by simp [go_sem]) rfl (by omega) (by unfold maxLen; omega) (by simp; omega) ?_); intro v1 w1 hown1 hb1)
                    have R1 := R.out.step (k' := k + 2) (iv' := .int .i64 ((k : Int) + 2)) (by go_num) hown1 (by omega) (by omega) (((Below.refl _ _).alloc (by omega) _).trans hb1)
                    clear hown1 hb1
                    go_wp2
                    go_roundw
                    case rel => exact ⟨_, _, _, R1⟩
                    case measure => simp [intOf]; omega
                  | false =>
                    cases e39 : ((bn s (k + 1) : Int) == 39) with
                    | true =>
                      go_wp2_with (at_builtin; go_must (refine wpList_push _ rfl _ _ _ rfl elU8 w.heap.size _ _ _ rfl (R.out.own.alloc _) _ _ (.int .u8 (bn s (k + 1))) rfl (by simp [go_sem]) rfl (by omega) (by unfold maxLen; omega) (by simp; omega) ?_); intro v1 w1 hown1 hb1)
                      have R1 := R.out.step (k' := k + 2) (iv' := .int .i64 ((k : Int) + 2)) (by go_num) hown1 (by omega) (by omega) (((Below.refl _ _).alloc (by omega) _).trans hb1)
                      clear hown1 hb1
                      go_wp2
                      go_roundw
                      case rel => exact ⟨_, _, _, R1⟩
                      case measure => simp [intOf]; omega
                    | false =>
                      go_wp2
                      go_ret3
                      exact ⟨⟨_, k, _, rfl, by omega, fun h => absurd h (by decide)⟩, R.out.below⟩
          | false =>
            by_cases hlow : (bn s k : Int) < 32
            · go_wp2
              go_ret3
              exact ⟨⟨_, k, _, rfl, by omega, fun h => absurd h (by decide)⟩, R.out.below⟩
            · by_cases hgr : (126 : Int) < (bn s k : Int)
              · go_wp2
                go_ret3
                exact ⟨⟨_, k, _, rfl, by omega, fun h => absurd h (by decide)⟩, R.out.below⟩
              · go_wp2_with (at_builtin; go_must (refine wpList_push _ rfl _ _ _ rfl elU8 w.heap.size _ _ _ rfl (R.out.own.alloc _) _ _ (.int .u8 (bn s k)) rfl (by simp [go_sem]) rfl (by omega) (by unfold maxLen; omega) (by simp; omega) ?_); intro v1 w1 hown1 hb1)
                have R1 := R.out.step (k' := k + 1) (iv' := .int .i64 ((k : Int) + 1)) (by go_num) hown1 (by omega) (by omega) (((Below.refl _ _).alloc (by omega) _).trans hb1)
                clear hown1 hb1
                go_wp2
                go_roundw
                case rel => exact ⟨_, _, _, R1⟩
                case measure => simp [intOf]; omega
    · obtain rfl : k = s.size := by omega
      go_wp2
      go_ret3
      exact ⟨⟨_, i, 31, rfl, by omega, fun h => absurd h (by decide)⟩, R.out.below⟩
end Go.Proofs.Ytgoedlbdnmhppaa
