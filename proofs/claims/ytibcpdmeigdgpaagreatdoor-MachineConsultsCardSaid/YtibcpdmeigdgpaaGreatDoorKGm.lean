/- The reference's lexer: what lies between tokens. The reference's lexer: a quoted atom. -/
import Derived.Test.YtibcpdmeigdgpaaGreatDoorKHa
import Derived.Test.YtibcpdmeigdgpaaGreatDoorKGa
namespace Go.Proofs.YtibcpdmeigdgpaaGreatDoor
open Go.RowKit
def pairV (r : Nat × Bool) : Value := .tuple #[.int .i64 (r.1 : Int), .bool r.2]
set_option maxHeartbeats 2000000 in
theorem between_any (s : ByteArray) (i : Nat) (w : World) (hi : i ≤ s.size) (hs : s.size ≤ 90000) : Calls Tryz.prog 40 #[.string s, .int .i64 i] w fun e w' =>
 e = .returned (pairV (betN s i)) ∧ w = w' := by
 have hb : ∀ (i : Nat) (h : i < s.size), (s[i]'h).toNat = bn s i := bn_eq s
 go_enter Tryz.func40, Tryz.ntmps40
 go_wp2
 go_loopw [1] (fun iv wr => ∃ j : Nat, i ≤ j ∧ j ≤ s.size ∧ Hid (betN s i = betN s j) ∧ iv = .int .i64 (j : Int) ∧ w = wr) (fun iv _ => s.size - (intOf iv).toNat)
 case atStart => exact ⟨i, by omega, hi, Lib.hid rfl, rfl, rfl⟩
 case round =>
  obtain ⟨j, hij, hj, hr, rfl, rfl⟩ := hrel
  by_cases h7 : j < s.size
  ·have h7' : (j : Int) < (s.size : Int) := by omega
   have HE := Lib.hid (hr.out.trans (betN_eq h7))
   clear hr
   go_wp2_with fail
   refine (blank_any (bn s j) _).mono ?_
   rintro e w1 ⟨rfl, rfl⟩
   cases hbl : blankB (bn s j) with
   | true =>
    have HR := Lib.hid (show betN s i = betN s (j + 1) by rw [HE.out, hbl]; rfl)
    clear HE
    go_wp2_with fail
    go_roundw
    case rel => exact ⟨j + 1, by omega, by omega, HR, by go_num, by trivial⟩
    case measure => simp [intOf]; omega
   | false =>
    cases h37 : ((bn s j : Int) == 37) with
    | true =>
     have HR := Lib.hid (show betN s i = betN s (lineN s j) by rw [HE.out, hbl, h37]; rfl)
     clear HE
     go_wp2_with fail
     go_loopw [1] (fun iv wr => ∃ k : Nat, j ≤ k ∧ k ≤ s.size ∧ Hid (lineN s j = lineN s k) ∧ iv = .int .i64 (k : Int) ∧ w = wr) (fun iv _ => s.size - (intOf iv).toNat)
     case atStart => exact ⟨j, by omega, hj, Lib.hid rfl, rfl, rfl⟩
     case round =>
      obtain ⟨k, hjk, hk, hl, rfl, rfl⟩ := hrel
      by_cases hks : k < s.size
      ·have hks' : (k : Int) < (s.size : Int) := by omega
       cases hk10 : ((bn s k : Int) != 10) with
       | true =>
        have HL := Lib.hid (hl.out.trans (lineN_step hks hk10))
        clear hl
        go_wp2_with fail
        go_roundw
        case rel => exact ⟨k + 1, by omega, by omega, HL, by go_num, by trivial⟩
        case measure => simp [intOf]; omega
       | false =>
        have HL := Lib.hid (hl.out.trans (lineN_stop hk10))
        clear hl
        have hne : j < k := by
         rcases Nat.lt_or_ge j k with h | h
         ·exact h
         ·obtain rfl : j = k := by omega
          simp at h37 hk10
          omega
        go_wp2_with fail
        go_roundw
        case rel => exact ⟨k, by omega, by omega, Lib.hid (by rw [HR.out, HL.out]), by go_num, by trivial⟩
        case measure => simp [intOf]; omega
      ·obtain rfl : k = s.size := by omega
       have HL := Lib.hid (hl.out.trans (lineN_end (Nat.le_refl _)))
       clear hl
       go_wp2_with fail
       go_roundw
       case rel => exact ⟨s.size, by omega, by omega, Lib.hid (by rw [HR.out, HL.out]), by go_num, by trivial⟩
       case measure => simp [intOf]; omega
    | false =>
     go_wp2_with fail
     refine (two_any s j 47 42 _ (by omega)).mono ?_
     rintro e w1 ⟨rfl, rfl⟩
     cases h2 : twoB s j 47 42 with
     | false =>
      have HR := Lib.hid (show betN s i = (j, true) by rw [HE.out, hbl, h37, h2]; rfl)
      clear HE
      go_wp2_with fail
      go_ret2
      exact ⟨by rw [HR.out]; rfl, rfl⟩
     | true =>
      have hj1 := twoB_lt h2
      have HR := Lib.hid (show betN s i = (if endN s (j + 2) < s.size then betN s (endN s (j + 2) + 2) else (j, false)) by rw [HE.out, hbl, h37, h2]; rfl)
      clear HE
      go_wp2_with fail
      go_loopw [6] (fun iv wr => ∃ k : Nat, j < k ∧ k ≤ s.size ∧ Hid (endN s (j + 2) = endN s k) ∧ iv = .int .i64 (k : Int) ∧ w = wr) (fun iv _ => s.size - (intOf iv).toNat)
      case atStart => exact ⟨j + 2, by omega, by omega, Lib.hid rfl, by go_num, by trivial⟩
      case round =>
       obtain ⟨k, hjk, hk, hl, rfl, rfl⟩ := hrel
       by_cases hks : k < s.size
       ·have hks' : (k : Int) < (s.size : Int) := by omega
        go_wp2_with fail
        refine (two_any s k 42 47 _ (by omega)).mono ?_
        rintro e w1 ⟨rfl, rfl⟩
        cases h3 : twoB s k 42 47 with
        | false =>
         have HL := Lib.hid (hl.out.trans (endN_step hks h3))
         clear hl
         go_wp2_with fail
         go_roundw
         case rel => exact ⟨k + 1, by omega, by omega, HL, by go_num, by trivial⟩
         case measure => simp [intOf]; omega
        | true =>
         have hk1 := twoB_lt h3
         have HL := Lib.hid (hl.out.trans (endN_stop h3))
         clear hl
         go_wp2_with fail
         go_roundw
         case rel => exact ⟨k + 2, by omega, by omega, Lib.hid (by rw [HR.out, HL.out, if_pos hks]), by go_num, by trivial⟩
         case measure => simp [intOf]; omega
       ·obtain rfl : k = s.size := by omega
        have HL := Lib.hid (hl.out.trans (endN_end (Nat.le_refl _)))
        clear hl
        go_wp2_with fail
        go_ret2
        exact ⟨by rw [HR.out, HL.out, if_neg (Nat.lt_irrefl _)]; rfl, rfl⟩
  ·obtain rfl : j = s.size := by omega
   have HR := Lib.hid (hr.out.trans (betN_end (Nat.le_refl _)))
   clear hr
   go_wp2
   go_ret2
   exact ⟨by rw [HR.out]; rfl, rfl⟩
end Go.Proofs.YtibcpdmeigdgpaaGreatDoor
namespace Go.Proofs.YtibcpdmeigdgpaaGreatDoor
open Go.RowKit
theorem strOfNums_bytes (b : List UInt8) : strOfNums (b.map fun c => (c.toNat : Int)) = ⟨b.toArray⟩ := by
 have h : (b.map fun c => (c.toNat : Int)).map (fun n => UInt8.ofNat n.toNat) = b := by
  rw [List.map_map]
  conv => rhs; rw [← List.map_id b]
  exact List.map_congr_left fun c _ => by simp
 unfold strOfNums
 rw [h]
set_option maxRecDepth 100000 in
theorem own_text {w : World} {base : Nat} {v : Value} {n : Nat} {b : List UInt8} (h : w.ownsRow base 5 1 v n ((b.map fun c => (c.toNat : Int)).map (Value.int .u8))) :
 (convert 117 9 v).run Tryz.prog w = .ok (.string ⟨b.toArray⟩) w := by
 have hl : b.length = n := by have := own_len h; simpa using this
 rw [← strOfNums_bytes]
 obtain ⟨A, c, rfl, hc, hA, _, hx⟩ := own_open h
 rcases Nat.eq_zero_or_pos n with h0 | h0
 ·subst h0
  obtain rfl : b = [] := List.eq_nil_of_length_eq_zero hl
  rcases A with _ | ⟨b, off, sp⟩
  ·exact run_convert_bytes_nil w 117 5 Tryz.underlying117 Tryz.underlying5 0 c 9 Tryz.underlying9
  ·rcases h.2 with ⟨he, _⟩ | ⟨g, cap, cur, he, _⟩
   ·cases he
   ·injection he with he _ _
    injection he with he
    injection he with h1 h2 h3
    subst h1 h2 h3
    exact run_convert_bytes_arg w 117 5 Tryz.underlying117 Tryz.underlying5 b 0 0 c [] rfl (fun i hi => absurd hi (by omega)) 9 Tryz.underlying9
 ·obtain ⟨g, cur, rfl, _, hh, hcell⟩ := hx h0
  refine run_convert_bytes_arg w 117 5 Tryz.underlying117 Tryz.underlying5 g 0 n c _ (by simpa using hl) (fun i hi => ?_) 9 Tryz.underlying9
  rw [cell_of_row w g (0 + i) _ _ _ hh, Nat.zero_add, hcell i (by omega)]
  simp [List.getD_eq_getElem?_getD, List.getElem?_eq_getElem (show i < b.length by omega)]
def quoV : QuoR → Value
 | .ok t p => .tuple #[.string ⟨t.toArray⟩, .int .i64 (p : Int), .int .i64 0]
 | .bad p e => .tuple #[.string ⟨#[]⟩, .int .i64 (p : Int), .int .i64 e]
structure QuoteRel (B : Nat) (W : World) (s : ByteArray) (i : Nat) (b iv : Value) (wr : World) (k n : Nat) (l : List UInt8) : Prop where
 hi : iv = .int .i64 (k : Int)
 own : wr.ownsRow B 5 1 b n ((l.map fun c => (c.toNat : Int)).map (Value.int .u8))
 lo : i < k
 up : k ≤ s.size
 few : n ≤ k
 res : quoN s i (i + 1) [] = quoN s i k l
 below : Below B W wr
theorem QuoteRel.step {B : Nat} {W : World} {s : ByteArray} {i : Nat} {b iv : Value} {wr w1 : World} {k n k' : Nat} {l : List UInt8} {b' iv' : Value} {x : Int} {c : UInt8} (h : QuoteRel B W s i b iv wr k n l)
 (hi' : iv' = .int .i64 (k' : Int)) (hown : w1.ownsRow B 5 1 b' (n + 1) ((l.map fun c => (c.toNat : Int)).map (Value.int .u8) ++ [.int .u8 x])) (hk : k < k') (hk' : k' ≤ s.size) (hb : Below B wr w1) (hc : x = (c.toNat : Int)) (hr : quoN s i k l = quoN s i k' (l ++ [c])) :
 QuoteRel B W s i b' iv' w1 k' (n + 1) (l ++ [c]) :=
 ⟨hi', by subst hc; simpa using hown, by have := h.lo; omega, hk', by have := h.few; omega, h.res.trans hr, h.below.trans hb⟩
set_option maxRecDepth 100000 in
set_option maxHeartbeats 4000000 in
theorem quoted_any (s : ByteArray) (i : Nat) (w : World) (hi : i < s.size) (hs : s.size ≤ 90000) : Calls Tryz.prog 48 #[.string s, .int .i64 i] w fun e w' =>
 e = .returned (quoV (quoN s i (i + 1) [])) ∧ Below w.heap.size w w' := by
 have hb : ∀ (i : Nat) (h : i < s.size), (s[i]'h).toNat = bn s i := bn_eq s
 go_enter Tryz.func48, Tryz.ntmps48
 go_wp2
 go_loopw [7, 8] (fun b iv wr => ∃ k n l, QuoteRel w.heap.size w s i b iv wr k n l) (fun _ iv _ => s.size - (intOf iv).toNat)
 case atStart =>
  exact ⟨i + 1, 0, [], by go_num, ownsRow_empty _ _ _ _ (heap_alloc_new _ _), by omega, by omega, by omega, rfl, (Below.refl _ _).alloc (Nat.le_refl _) _⟩
 case round =>
  obtain ⟨k, n, l, hr⟩ := hrel
  obtain rfl := hr.hi
  have R := Lib.hid hr
  have hk := hr.up
  have hlo := hr.lo
  have hfew := hr.few
  have hsz := hr.below.size
  clear hr
  by_cases h7 : k < s.size
  ·have h7' : (k : Int) < (s.size : Int) := by omega
   have HE := Lib.hid (quoN_eq (i := i) (b := l) h7)
   go_wp2_with fail
   refine (two_any s k 39 39 _ (by omega)).mono ?_
   rintro e w1 ⟨rfl, rfl⟩
   cases h2 : twoB s k 39 39 with
   | true =>
    have hk2 := twoB_lt h2
    have HQ := Lib.hid (show quoN s i k l = quoN s i (k + 2) (l ++ [39]) by rw [HE.out, h2]; rfl)
    clear HE
    go_wp2_with (at_builtin; go_must (refine wpList_push _ rfl _ _ _ rfl elU8 w.heap.size _ _ _ rfl (R.out.own.alloc _) _ _ (.int .u8 39) rfl (by simp [go_sem]) rfl (by omega) (by unfold maxLen; omega) (by simp; omega) ?_); intro v1 w1 hown1 hb1)
    have R1 := R.out.step (k' := k + 2) (iv' := .int .i64 ((k : Int) + 2)) (by go_num) hown1 (by omega) (by omega) (((Below.refl _ _).alloc (by omega) _).trans hb1) (by rfl) HQ.out
    clear hown1 hb1
    go_wp2
    go_roundw
    case rel => exact ⟨_, _, _, R1⟩
    case measure => simp [intOf]; omega
   | false =>
    cases h39 : ((bn s k : Int) == 39) with
    | true =>
     have hconv := own_text R.out.own
     have HQ := Lib.hid (show quoN s i k l = .ok l (k + 1) by rw [HE.out, h2, h39]; rfl)
     clear HE
     go_wp2_with fail
     go_ret3
     exact ⟨by rw [R.out.res, HQ.out]; rfl, R.out.below⟩
    | false =>
     cases h92 : ((bn s k : Int) == 92) with
     | true =>
      by_cases hend : k + 1 = s.size
      ·have hend' : ((k : Int) + 1 == (s.size : Int)) = true := by simp; omega
       have HQ := Lib.hid (show quoN s i k l = .bad i 31 by rw [HE.out, h2, h39, h92, if_pos hend]; rfl)
       clear HE
       go_wp2
       go_ret3
       exact ⟨by rw [R.out.res, HQ.out]; rfl, R.out.below⟩
      ·have hend' : ((k : Int) + 1 == (s.size : Int)) = false := by simp; omega
       have hk1 : k + 1 < s.size := by omega
       have hk2 : ((k : Int) + 1).toNat = k + 1 := by omega
       have hk1' : (k : Int) + 1 < (s.size : Int) := by omega
       cases e110 : ((bn s (k + 1) : Int) == 110) with
       | true =>
        have HQ := Lib.hid (show quoN s i k l = quoN s i (k + 2) (l ++ [10]) by rw [HE.out, h2, h39, h92, if_neg hend, e110]; rfl)
        clear HE
        go_wp2_with (at_builtin; go_must (refine wpList_push _ rfl _ _ _ rfl elU8 w.heap.size _ _ _ rfl (R.out.own.alloc _) _ _ (.int .u8 10) rfl (by simp [go_sem]) rfl (by omega) (by unfold maxLen; omega) (by simp; omega) ?_); intro v1 w1 hown1 hb1)
        have R1 := R.out.step (k' := k + 2) (iv' := .int .i64 ((k : Int) + 2)) (by go_num) hown1 (by omega) (by omega) (((Below.refl _ _).alloc (by omega) _).trans hb1) (by rfl) HQ.out
        clear hown1 hb1
        go_wp2
        go_roundw
        case rel => exact ⟨_, _, _, R1⟩
        case measure => simp [intOf]; omega
       | false =>
        cases e116 : ((bn s (k + 1) : Int) == 116) with
        | true =>
         have HQ := Lib.hid (show quoN s i k l = quoN s i (k + 2) (l ++ [9]) by rw [HE.out, h2, h39, h92, if_neg hend, e110, e116]; rfl)
         clear HE
         go_wp2_with (at_builtin; go_must (refine wpList_push _ rfl _ _ _ rfl elU8 w.heap.size _ _ _ rfl (R.out.own.alloc _) _ _ (.int .u8 9) rfl (by simp [go_sem]) rfl (by omega) (by unfold maxLen; omega) (by simp; omega) ?_); intro v1 w1 hown1 hb1)
         have R1 := R.out.step (k' := k + 2) (iv' := .int .i64 ((k : Int) + 2)) (by go_num) hown1 (by omega) (by omega) (((Below.refl _ _).alloc (by omega) _).trans hb1) (by rfl) HQ.out
         clear hown1 hb1
         go_wp2
         go_roundw
         case rel => exact ⟨_, _, _, R1⟩
         case measure => simp [intOf]; omega
        | false =>
         cases e92 : ((bn s (k + 1) : Int) == 92) with
         | true =>
          have HQ := Lib.hid (show quoN s i k l = quoN s i (k + 2) (l ++ [bu s (k + 1)]) by rw [HE.out, h2, h39, h92, if_neg hend, e110, e116, e92]; rfl)
          clear HE
          go_wp2_with (at_builtin; go_must (refine wpList_push _ rfl _ _ _ rfl elU8 w.heap.size _ _ _ rfl (R.out.own.alloc _) _ _ (.int .u8 (bn s (k + 1))) rfl (by simp [go_sem]) rfl (by omega) (by unfold maxLen; omega) (by simp; omega) ?_); intro v1 w1 hown1 hb1)
          have R1 := R.out.step (k' := k + 2) (iv' := .int .i64 ((k : Int) + 2)) (by go_num) hown1 (by omega) (by omega) (((Below.refl _ _).alloc (by omega) _).trans hb1) (by rfl) HQ.out
          clear hown1 hb1
          go_wp2
          go_roundw
          case rel => exact ⟨_, _, _, R1⟩
          case measure => simp [intOf]; omega
         | false =>
          cases e39 : ((bn s (k + 1) : Int) == 39) with
          | true =>
           have HQ := Lib.hid (show quoN s i k l = quoN s i (k + 2) (l ++ [bu s (k + 1)]) by rw [HE.out, h2, h39, h92, if_neg hend, e110, e116, e92, e39]; rfl)
           clear HE
           go_wp2_with (at_builtin; go_must (refine wpList_push _ rfl _ _ _ rfl elU8 w.heap.size _ _ _ rfl (R.out.own.alloc _) _ _ (.int .u8 (bn s (k + 1))) rfl (by simp [go_sem]) rfl (by omega) (by unfold maxLen; omega) (by simp; omega) ?_); intro v1 w1 hown1 hb1)
           have R1 := R.out.step (k' := k + 2) (iv' := .int .i64 ((k : Int) + 2)) (by go_num) hown1 (by omega) (by omega) (((Below.refl _ _).alloc (by omega) _).trans hb1) (by rfl) HQ.out
           clear hown1 hb1
           go_wp2
           go_roundw
           case rel => exact ⟨_, _, _, R1⟩
           case measure => simp [intOf]; omega
          | false =>
           have HQ := Lib.hid (show quoN s i k l = .bad k 32 by rw [HE.out, h2, h39, h92, if_neg hend, e110, e116, e92, e39]; rfl)
           clear HE
           go_wp2
           go_ret3
           exact ⟨by rw [R.out.res, HQ.out]; rfl, R.out.below⟩
     | false =>
      by_cases hlow : (bn s k : Int) < 32
      ·have HQ := Lib.hid (show quoN s i k l = .bad k 30 by rw [HE.out, h2, h39, h92, decide_eq_true hlow]; rfl)
       clear HE
       go_wp2
       go_ret3
       exact ⟨by rw [R.out.res, HQ.out]; rfl, R.out.below⟩
      ·by_cases hgr : (126 : Int) < (bn s k : Int)
       ·have HQ := Lib.hid (show quoN s i k l = .bad k 30 by rw [HE.out, h2, h39, h92, decide_eq_true hgr, Bool.or_true]; rfl)
        clear HE
        go_wp2
        go_ret3
        exact ⟨by rw [R.out.res, HQ.out]; rfl, R.out.below⟩
       ·have HQ := Lib.hid (show quoN s i k l = quoN s i (k + 1) (l ++ [bu s k]) by rw [HE.out, h2, h39, h92, decide_eq_false hlow, decide_eq_false hgr]; rfl)
        clear HE
        go_wp2_with (at_builtin; go_must (refine wpList_push _ rfl _ _ _ rfl elU8 w.heap.size _ _ _ rfl (R.out.own.alloc _) _ _ (.int .u8 (bn s k)) rfl (by simp [go_sem]) rfl (by omega) (by unfold maxLen; omega) (by simp; omega) ?_); intro v1 w1 hown1 hb1)
        have R1 := R.out.step (k' := k + 1) (iv' := .int .i64 ((k : Int) + 1)) (by go_num) hown1 (by omega) (by omega) (((Below.refl _ _).alloc (by omega) _).trans hb1) (by rfl) HQ.out
        clear hown1 hb1
        go_wp2
        go_roundw
        case rel => exact ⟨_, _, _, R1⟩
        case measure => simp [intOf]; omega
  ·obtain rfl : k = s.size := by omega
   have HQ := Lib.hid (quoN_end (i := i) (b := l) (Nat.le_refl s.size))
   go_wp2
   go_ret3
   exact ⟨by rw [R.out.res, HQ.out]; rfl, R.out.below⟩
end Go.Proofs.YtibcpdmeigdgpaaGreatDoor
