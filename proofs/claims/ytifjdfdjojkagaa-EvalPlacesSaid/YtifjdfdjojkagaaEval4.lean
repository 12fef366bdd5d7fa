/- The walks through eval.one (the rest), eval.value. -/
import Derived.Test.YtifjdfdjojkagaaEval3
namespace Go.Proofs.Ytifjdfdjojkagaa
open Go.RowKit

set_option maxRecDepth 100000 in
set_option maxHeartbeats 2000000 in
theorem one_neg (k n : Int) (s : ByteArray) (a : Nat → T) (A : Option Addr) (c : Nat) (w : World) (hT : TAt w w.heap.size k n s 1 a A c) (r0 : Ev) (h0 : ValR (a 0) r0) (hs : s.toList = [45]) (b0 : ∀ x, r0 = .val x → InR x) :
    Calls Try.prog 25 #[.agg #[.int .i64 k, .int .i64 n, .string s, .slice A 1 c]] w fun e w' => e = evEnd (ev1 s r0) ∧ Below w.heap.size w w' := by
  obtain ⟨b, off, rfl, hb, hc⟩ := hT.cells (by omega)
  obtain ⟨v0, v1, v2, v3, c0, c1, c2, c3, ht0⟩ := hc 0 (by omega)
  have g0 : (s.toList == [43]) = false := by rw [hs]; rfl
  have gg : (s.toList == [45]) = true := by rw [hs]; rfl
  have hb1 := (Below.refl w.heap.size w).alloc (Nat.le_refl _) (Obj.cells #[.int .i64 k, .int .i64 n, .string s, .slice (some ⟨b, off, none⟩) 1 c] 29)
  have HT0 := Lib.hid ht0
  have HB1 := Lib.hid hb1
  have d0 := (hb1.cell (p := ⟨b, off, none⟩) hb).trans c0
  have d1 := (hb1.cell (p := ⟨b, off + 1, none⟩) hb).trans c1
  have d2 := (hb1.cell (p := ⟨b, off + 2, none⟩) hb).trans c2
  have d3 := (hb1.cell (p := ⟨b, off + 3, none⟩) hb).trans c3
  clear hc hT c0 c1 c2 c3 ht0 hb hb1
  rcases r0 with x | ⟨fk, fs, fn⟩
  · obtain ⟨hx, hx'⟩ := b0 x rfl
    obtain ⟨p, q, hpq⟩ : ∃ p q, num1 s.toList x = (p, q) := ⟨_, _, rfl⟩
    obtain ⟨r, hr⟩ : ∃ r, ev p q s 1 = r := ⟨_, rfl⟩
    have hm := fun w => must_any k n s (some ⟨b, off, none⟩) 1 c p q w
    simp only [hr] at hm
    rw [show ev1 s (.val x) = r by unfold ev1; dsimp only; rw [hpq]; exact hr]
    rw [hs] at hpq
    have hop : ∀ w, Calls Try.prog 43 #[.int .i64 x] w fun r w' => r = .returned (.tuple #[.int .i64 p, .int .i64 q]) ∧ Below w.heap.size w w' := by
      have e : num1 [45] x = (fitV (-x), fitE (-x)) := rfl
      rw [e] at hpq
      cases hpq
      intro w
      refine (neg_any x w hx hx').mono ?_
      rintro r w' ⟨rfl, rfl⟩
      exact ⟨rfl, Below.refl _ _⟩
    clear hr hpq hs b0
    rcases r with z | ⟨fk, fs, fn⟩
    all_goals
      go_enter Try.func25, Try.ntmps25
      go_wp2_with fail
      clear d0 d1 d2 d3
      refine (h0 _ _ ((HT0.out.below HB1.out).more (by simp))).mono ?_
      rintro e w3 ⟨rfl, h3⟩
      have X3 := Lib.hid ((h3.block w.heap.size (by simp)).trans (heap_alloc_new w _))
      have l3 := Lib.hid (Nat.lt_of_lt_of_le (show w.heap.size < _ by simp) h3.size)
      have H3 := Lib.hid (HB1.out.trans (h3.mono (by simp)))
      clear h3
      obtain ⟨x0, x1, x2, x3⟩ := box4 X3.out
      simp only [evEnd]
      go_wp2_with fail
      refine (hop _).mono ?_
      rintro e w4 ⟨rfl, h4⟩
      clear x0 x1 x2 x3
      have H4 := Lib.hid (H3.out.trans (h4.mono H3.out.size))
      have X4 := Lib.hid ((h4.block w.heap.size l3.out).trans X3.out)
      clear h4
      obtain ⟨x0, x1, x2, x3⟩ := box4 X4.out
      go_wp2_with fail
      refine (hm _).mono ?_
      rintro e w6 ⟨rfl, h6⟩
      have H6 := Lib.hid (H4.out.trans (h6.mono H4.out.size))
      clear h6 x0 x1 x2 x3
      simp only [evEnd]
      go_wp2
      first | exact ⟨rfl, rfl, H6.out⟩ | (go_ret; exact ⟨rfl, H6.out⟩)
  · clear b0 hs
    show Calls _ _ _ _ fun e w' => e = evEnd (.flt fk fs fn) ∧ _
    go_enter Try.func25, Try.ntmps25
    go_wp2_with fail
    clear d0 d1 d2 d3
    refine (h0 _ _ ((HT0.out.below HB1.out).more (by simp))).mono ?_
    rintro e w3 ⟨rfl, h3⟩
    have X3 := Lib.hid ((h3.block w.heap.size (by simp)).trans (heap_alloc_new w _))
    have l3 := Lib.hid (Nat.lt_of_lt_of_le (show w.heap.size < _ by simp) h3.size)
    have H3 := Lib.hid (HB1.out.trans (h3.mono (by simp)))
    clear h3
    simp only [evEnd]
    go_wp2
    exact ⟨rfl, rfl, H3.out⟩
set_option maxRecDepth 100000 in
set_option maxHeartbeats 2000000 in
theorem one_abs (k n : Int) (s : ByteArray) (a : Nat → T) (A : Option Addr) (c : Nat) (w : World) (hT : TAt w w.heap.size k n s 1 a A c) (r0 : Ev) (h0 : ValR (a 0) r0) (hs : s.toList = [97, 98, 115]) (b0 : ∀ x, r0 = .val x → InR x) :
    Calls Try.prog 25 #[.agg #[.int .i64 k, .int .i64 n, .string s, .slice A 1 c]] w fun e w' => e = evEnd (ev1 s r0) ∧ Below w.heap.size w w' := by
  obtain ⟨b, off, rfl, hb, hc⟩ := hT.cells (by omega)
  obtain ⟨v0, v1, v2, v3, c0, c1, c2, c3, ht0⟩ := hc 0 (by omega)
  have g0 : (s.toList == [43]) = false := by rw [hs]; rfl
  have g1 : (s.toList == [45]) = false := by rw [hs]; rfl
  have gg : (s.toList == [97, 98, 115]) = true := by rw [hs]; rfl
  have hb1 := (Below.refl w.heap.size w).alloc (Nat.le_refl _) (Obj.cells #[.int .i64 k, .int .i64 n, .string s, .slice (some ⟨b, off, none⟩) 1 c] 29)
  have HT0 := Lib.hid ht0
  have HB1 := Lib.hid hb1
  have d0 := (hb1.cell (p := ⟨b, off, none⟩) hb).trans c0
  have d1 := (hb1.cell (p := ⟨b, off + 1, none⟩) hb).trans c1
  have d2 := (hb1.cell (p := ⟨b, off + 2, none⟩) hb).trans c2
  have d3 := (hb1.cell (p := ⟨b, off + 3, none⟩) hb).trans c3
  clear hc hT c0 c1 c2 c3 ht0 hb hb1
  rcases r0 with x | ⟨fk, fs, fn⟩
  · obtain ⟨hx, hx'⟩ := b0 x rfl
    obtain ⟨p, q, hpq⟩ : ∃ p q, num1 s.toList x = (p, q) := ⟨_, _, rfl⟩
    obtain ⟨r, hr⟩ : ∃ r, ev p q s 1 = r := ⟨_, rfl⟩
    have hm := fun w => must_any k n s (some ⟨b, off, none⟩) 1 c p q w
    simp only [hr] at hm
    rw [show ev1 s (.val x) = r by unfold ev1; dsimp only; rw [hpq]; exact hr]
    rw [hs] at hpq
    have hop : ∀ w, Calls Try.prog 45 #[.int .i64 x] w fun r w' => r = .returned (.tuple #[.int .i64 p, .int .i64 q]) ∧ Below w.heap.size w w' := by
      have e : num1 [97, 98, 115] x = (fitV ((x.natAbs : Int)), fitE ((x.natAbs : Int))) := rfl
      rw [e] at hpq
      cases hpq
      intro w
      refine (abs_any x w hx hx').mono ?_
      rintro r w' ⟨rfl, rfl⟩
      exact ⟨rfl, Below.refl _ _⟩
    clear hr hpq hs b0
    rcases r with z | ⟨fk, fs, fn⟩
    all_goals
      go_enter Try.func25, Try.ntmps25
      go_wp2_with fail
      clear d0 d1 d2 d3
      refine (h0 _ _ ((HT0.out.below HB1.out).more (by simp))).mono ?_
      rintro e w3 ⟨rfl, h3⟩
      have X3 := Lib.hid ((h3.block w.heap.size (by simp)).trans (heap_alloc_new w _))
      have l3 := Lib.hid (Nat.lt_of_lt_of_le (show w.heap.size < _ by simp) h3.size)
      have H3 := Lib.hid (HB1.out.trans (h3.mono (by simp)))
      clear h3
      obtain ⟨x0, x1, x2, x3⟩ := box4 X3.out
      simp only [evEnd]
      go_wp2_with fail
      refine (hop _).mono ?_
      rintro e w4 ⟨rfl, h4⟩
      clear x0 x1 x2 x3
      have H4 := Lib.hid (H3.out.trans (h4.mono H3.out.size))
      have X4 := Lib.hid ((h4.block w.heap.size l3.out).trans X3.out)
      clear h4
      obtain ⟨x0, x1, x2, x3⟩ := box4 X4.out
      go_wp2_with fail
      refine (hm _).mono ?_
      rintro e w6 ⟨rfl, h6⟩
      have H6 := Lib.hid (H4.out.trans (h6.mono H4.out.size))
      clear h6 x0 x1 x2 x3
      simp only [evEnd]
      go_wp2
      first | exact ⟨rfl, rfl, H6.out⟩ | (go_ret; exact ⟨rfl, H6.out⟩)
  · clear b0 hs
    show Calls _ _ _ _ fun e w' => e = evEnd (.flt fk fs fn) ∧ _
    go_enter Try.func25, Try.ntmps25
    go_wp2_with fail
    clear d0 d1 d2 d3
    refine (h0 _ _ ((HT0.out.below HB1.out).more (by simp))).mono ?_
    rintro e w3 ⟨rfl, h3⟩
    have X3 := Lib.hid ((h3.block w.heap.size (by simp)).trans (heap_alloc_new w _))
    have l3 := Lib.hid (Nat.lt_of_lt_of_le (show w.heap.size < _ by simp) h3.size)
    have H3 := Lib.hid (HB1.out.trans (h3.mono (by simp)))
    clear h3
    simp only [evEnd]
    go_wp2
    exact ⟨rfl, rfl, H3.out⟩
set_option maxRecDepth 100000 in
set_option maxHeartbeats 2000000 in
theorem one_sign (k n : Int) (s : ByteArray) (a : Nat → T) (A : Option Addr) (c : Nat) (w : World) (hT : TAt w w.heap.size k n s 1 a A c) (r0 : Ev) (h0 : ValR (a 0) r0) (hs : s.toList = [115, 105, 103, 110]) :
    Calls Try.prog 25 #[.agg #[.int .i64 k, .int .i64 n, .string s, .slice A 1 c]] w fun e w' => e = evEnd (ev1 s r0) ∧ Below w.heap.size w w' := by
  obtain ⟨b, off, rfl, hb, hc⟩ := hT.cells (by omega)
  obtain ⟨v0, v1, v2, v3, c0, c1, c2, c3, ht0⟩ := hc 0 (by omega)
  have g1 : (s.toList == [43]) = false := by rw [hs]; rfl
  have g2 : (s.toList == [45]) = false := by rw [hs]; rfl
  have g3 : (s.toList == [97, 98, 115]) = false := by rw [hs]; rfl
  have gg : (s.toList == [115, 105, 103, 110]) = true := by rw [hs]; rfl
  have hb1 := (Below.refl w.heap.size w).alloc (Nat.le_refl _) (Obj.cells #[.int .i64 k, .int .i64 n, .string s, .slice (some ⟨b, off, none⟩) 1 c] 29)
  have HT0 := Lib.hid ht0
  have HB1 := Lib.hid hb1
  have d0 := (hb1.cell (p := ⟨b, off, none⟩) hb).trans c0
  have d1 := (hb1.cell (p := ⟨b, off + 1, none⟩) hb).trans c1
  have d2 := (hb1.cell (p := ⟨b, off + 2, none⟩) hb).trans c2
  have d3 := (hb1.cell (p := ⟨b, off + 3, none⟩) hb).trans c3
  clear hc hT c0 c1 c2 c3 ht0 hb hb1
  rcases r0 with x | ⟨fk, fs, fn⟩
  · have he : ev1 s (.val x) = .val (if x < 0 then -1 else if 0 < x then 1 else 0) := by unfold ev1; dsimp only; rw [hs]; rfl
    rw [he]
    clear he hs
    rcases Int.lt_trichotomy x 0 with hx | hx | hx
    · rw [if_pos hx]
      go_enter Try.func25, Try.ntmps25
      go_wp2_with fail
      clear d0 d1 d2 d3
      refine (h0 _ _ ((HT0.out.below HB1.out).more (by simp))).mono ?_
      rintro e w3 ⟨rfl, h3⟩
      have H3 := Lib.hid (HB1.out.trans (h3.mono (by simp)))
      clear h3
      simp only [evEnd]
      go_wp2
      first | exact ⟨rfl, rfl, H3.out⟩ | (go_ret; exact ⟨rfl, H3.out⟩)
    · subst hx
      rw [if_neg (by omega), if_neg (by omega)]
      go_enter Try.func25, Try.ntmps25
      go_wp2_with fail
      clear d0 d1 d2 d3
      refine (h0 _ _ ((HT0.out.below HB1.out).more (by simp))).mono ?_
      rintro e w3 ⟨rfl, h3⟩
      have H3 := Lib.hid (HB1.out.trans (h3.mono (by simp)))
      clear h3
      simp only [evEnd]
      go_wp2
      first | exact ⟨rfl, rfl, H3.out⟩ | (go_ret; exact ⟨rfl, H3.out⟩)
    · have hx2 : ¬ x < 0 := by omega
      rw [if_neg hx2, if_pos hx]
      go_enter Try.func25, Try.ntmps25
      go_wp2_with fail
      clear d0 d1 d2 d3
      refine (h0 _ _ ((HT0.out.below HB1.out).more (by simp))).mono ?_
      rintro e w3 ⟨rfl, h3⟩
      have H3 := Lib.hid (HB1.out.trans (h3.mono (by simp)))
      clear h3
      simp only [evEnd]
      go_wp2
      first | exact ⟨rfl, rfl, H3.out⟩ | (go_ret; exact ⟨rfl, H3.out⟩)
  · clear hs
    show Calls _ _ _ _ fun e w' => e = evEnd (.flt fk fs fn) ∧ _
    go_enter Try.func25, Try.ntmps25
    go_wp2_with fail
    clear d0 d1 d2 d3
    refine (h0 _ _ ((HT0.out.below HB1.out).more (by simp))).mono ?_
    rintro e w3 ⟨rfl, h3⟩
    have H3 := Lib.hid (HB1.out.trans (h3.mono (by simp)))
    clear h3
    simp only [evEnd]
    go_wp2
    first | exact ⟨rfl, rfl, H3.out⟩ | (go_ret; exact ⟨rfl, H3.out⟩)

end Go.Proofs.Ytifjdfdjojkagaa
