/- The walk through coneyref13.Eval: two arguments. -/
import Derived.Test.YtifjdfdjojkagaaEvalR2
namespace Go.Proofs.Ytifjdfdjojkagaa
open Go.RowKit Dg

set_option maxRecDepth 100000 in
set_option maxHeartbeats 4000000 in
theorem ref_two (k n : Int) (s : ByteArray) (a : Nat → T) (A : Option Addr) (c : Nat) (w : World) (hT : TAt w w.heap.size k n s 2 a A c) (r0 r1 : Ev) (h0 : RefR (a 0) r0) (h1r : RefR (a 1) r1)
    (b0 : ∀ x, r0 = .val x → InR x) (b1 : ∀ x, r1 = .val x → InR x) (k0 : ∀ fk fs fn, r0 = .flt fk fs fn → ¬ fk = 0) (k1 : ∀ fk fs fn, r1 = .flt fk fs fn → ¬ fk = 0)
    (h1 : (k == 1) = false) (h2 : (k == 2) = false) (h3 : (k == 3) = false) (hs : isTwo s.toList = true) (hdb : Double) :
    Calls Try.prog 11 #[.agg #[.int .i64 k, .int .i64 n, .string s, .slice A 2 c]] w fun e w' => e = evPair (ev2 s r0 r1) ∧ Below w.heap.size w w' := by
  obtain ⟨b, off, rfl, hb, hc⟩ := hT.cells (by omega)
  obtain ⟨v0, v1, v2, v3, c0, c1, c2, c3, ht0⟩ := hc 0 (by omega)
  obtain ⟨u0, u1, u2, u3, e0, e1, e2, e3, ht1⟩ := hc 1 (by omega)
  have htwo := twoArgs_any s
  rw [hs] at htwo
  have hb1 := ((Below.refl w.heap.size w).alloc (Nat.le_refl _) (Obj.cells #[.int .i64 k, .int .i64 n, .string s, .slice (some ⟨b, off, none⟩) 2 c] 29)).alloc (by simp) (Obj.cells #[.int .i64 0, .string ⟨#[]⟩, .int .i64 0] 31)
  have HT0 := Lib.hid ht0
  have HT1 := Lib.hid ht1
  have HB1 := Lib.hid hb1
  have HC1 := Lib.hid (show ∀ w1 : World, Below w.heap.size w w1 → w1.cell? ⟨b, off + 4, none⟩ = some u0 ∧ w1.cell? ⟨b, off + 4 + 1, none⟩ = some u1 ∧ w1.cell? ⟨b, off + 4 + 2, none⟩ = some u2 ∧ w1.cell? ⟨b, off + 4 + 3, none⟩ = some u3 from
    fun w1 h => ⟨(h.cell hb).trans e0, (h.cell hb).trans e1, (h.cell hb).trans e2, (h.cell hb).trans e3⟩)
  have d0 := (hb1.cell (p := ⟨b, off, none⟩) hb).trans c0
  have d1 := (hb1.cell (p := ⟨b, off + 1, none⟩) hb).trans c1
  have d2 := (hb1.cell (p := ⟨b, off + 2, none⟩) hb).trans c2
  have d3 := (hb1.cell (p := ⟨b, off + 3, none⟩) hb).trans c3
  clear hc hT c0 c1 c2 c3 e0 e1 e2 e3 ht0 ht1 hb hb1
  rcases r0 with x | ⟨fk, fs, fn⟩
  · have hx := b0 x rfl
    clear b0 k0
    rcases r1 with y | ⟨fk, fs, fn⟩
    · have hy := b1 y rfl
      clear b1 k1
      obtain ⟨p, q, hpq⟩ : ∃ p q, num2 s.toList x y = (p, q) := ⟨_, _, rfl⟩
      have hsx := fun w => hdb s x y w hx hy hs
      simp only [hpq] at hsx
      obtain ⟨fk, fs, fn, hfl⟩ := fltV_agg q s 2
      have hfa := fun w => fault_any q s 2 w
      simp only [hfl] at hfa
      have hev : evPair (ev2 s (.val x) (.val y)) = .returned (.tuple #[.int .i64 p, .agg #[.int .i64 fk, .string fs, .int .i64 fn]]) := by
        unfold ev2
        dsimp only
        rw [hpq]
        dsimp only
        have hg := num2_good s.toList x y
        rw [hpq] at hg
        rw [← fltV_ev p q s 2 hg, ← hfl]
        rfl
      rw [hev]
      clear hev hfl hpq hdb
      go_enter Try.func11, Try.ntmps11
      go_wp2_with fail
      refine (htwo _).mono ?_
      rintro e w1 ⟨rfl, rfl⟩
      go_wp2_with fail
      refine (h0 _ _ ((HT0.out.below HB1.out).more (by simp; omega))).mono ?_
      clear d0 d1 d2 d3 h0 htwo hs
      rintro e w3 ⟨rfl, h3⟩
      have H3 := Lib.hid (HB1.out.trans (h3.mono (by simp; omega)))
      have X2 := Lib.hid ((h3.block (w.heap.size + 1) (by simp)).trans (heap_mid w _ _))
      have X1 := Lib.hid ((h3.block w.heap.size (by simp; omega)).trans (heap_mid0 w _ _))
      have H3S := Lib.hid h3.size
      clear h3
      have hz := Nat.lt_of_lt_of_le (show w.heap.size + 1 < _ by simp) H3S.out
      have W1 := (Below.heap_alloc w3 (Obj.cells #[.int .i64 0, .string noName, .int .i64 0] 31) w.heap.size (by omega)).trans X1.out
      have W2 := (Below.heap_alloc w3 (Obj.cells #[.int .i64 0, .string noName, .int .i64 0] 31) (w.heap.size + 1) hz).trans X2.out
      obtain ⟨y0, y1, y2, y3⟩ := box4 W1
      have Y1 := Lib.hid W1
      have Y2 := Lib.hid W2
      have HZ := Lib.hid hz
      have hw := H3.out.alloc H3.out.size (Obj.cells #[.int .i64 0, .string noName, .int .i64 0] 31)
      obtain ⟨e0, e1, e2, e3⟩ := HC1.out _ hw
      have HW := Lib.hid hw
      clear W1 W2 hz hw
      simp only [evPair]
      go_wp2_with fail
      refine (h1r _ _ ((HT1.out.below HW.out).more HW.out.size)).mono ?_
      rintro e w4 ⟨rfl, h4⟩
      have H4 := Lib.hid (HW.out.trans (h4.mono HW.out.size))
      have V1 := Lib.hid ((h4.block w.heap.size (by have := HZ.out; simp; omega)).trans Y1.out)
      have V2 := Lib.hid ((h4.block (w.heap.size + 1) (by have := HZ.out; simp; omega)).trans Y2.out)
      clear h4 y0 y1 y2 y3 e0 e1 e2 e3
      have hz := World.lt_of_heap V2.out
      have W1 := (Below.heap_alloc w4 (Obj.cells #[.int .i64 0, .string noName, .int .i64 0] 31) w.heap.size (by omega)).trans V1.out
      have W2 := (Below.heap_alloc w4 (Obj.cells #[.int .i64 0, .string noName, .int .i64 0] 31) (w.heap.size + 1) hz).trans V2.out
      obtain ⟨y0, y1, y2, y3⟩ := box4 W1
      have P1 := Lib.hid W1
      have P2 := Lib.hid W2
      have PZ := Lib.hid hz
      have PW := Lib.hid (H4.out.alloc H4.out.size (Obj.cells #[.int .i64 0, .string noName, .int .i64 0] 31))
      clear W1 W2 hz
      simp only [evPair]
      go_wp2_with fail
      refine (hsx _).mono ?_
      rintro e w5 ⟨rfl, h5⟩
      have H5 := Lib.hid (PW.out.trans (h5.mono PW.out.size))
      have Q1 := Lib.hid ((h5.block w.heap.size (by have := PZ.out; simp; omega)).trans P1.out)
      have Q2 := Lib.hid ((h5.block (w.heap.size + 1) (by have := PZ.out; simp; omega)).trans P2.out)
      clear h5 y0 y1 y2 y3
      obtain ⟨x0, x1, x2, x3⟩ := box4 Q1.out
      go_wp2_with fail
      refine (hfa _).mono ?_
      rintro e w6 ⟨rfl, h6⟩
      clear x0 x1 x2 x3
      have H6 := Lib.hid (H5.out.trans (h6.mono H5.out.size))
      have l5 := Lib.hid (World.lt_of_heap Q2.out)
      have U2 := Lib.hid ((h6.block (w.heap.size + 1) l5.out).trans Q2.out)
      clear h6
      obtain ⟨q0, q1, q2⟩ := box3 U2.out
      have f0 : w6.frozen? ⟨w.heap.size + 1, 0, none⟩ = false := by simp [World.frozen?, U2.out]
      have f1 : w6.frozen? ⟨w.heap.size + 1, 1, none⟩ = false := by simp [World.frozen?, U2.out]
      have f2 : w6.frozen? ⟨w.heap.size + 1, 2, none⟩ = false := by simp [World.frozen?, U2.out]
      go_wp2_with fail
      have HE := Lib.hid (((H6.out.setCell (p := ⟨w.heap.size + 1, 0, none⟩) (by simp) (.int .i64 fk)).setCell (p := ⟨w.heap.size + 1, 1, none⟩) (by simp) (.string fs)).setCell (p := ⟨w.heap.size + 1, 2, none⟩) (by simp) (.int .i64 fn))
      have Z := Blk.set_ (Blk.set_ (Blk.set_ U2.out 0 (.int .i64 fk)) 1 (.string fs)) 2 (.int .i64 fn)
      clear q0 q1 q2 f0 f1 f2
      obtain ⟨q0, q1, q2⟩ := box3 Z
      refine bodyPost_ret (v := (.tuple #[.int .i64 p, .agg #[.int .i64 fk, .string fs, .int .i64 fn]])) (by simp [results, go_sem, q0, q1, q2]) rfl ?_
      exact ⟨rfl, HE.out⟩
    · have hk := k1 fk fs fn rfl
      clear k1 b1
      show Calls _ _ _ _ fun e w' => e = evPair (.flt fk fs fn) ∧ _
      go_enter Try.func11, Try.ntmps11
      go_wp2_with fail
      refine (htwo _).mono ?_
      rintro e w1 ⟨rfl, rfl⟩
      go_wp2_with fail
      refine (h0 _ _ ((HT0.out.below HB1.out).more (by simp; omega))).mono ?_
      clear d0 d1 d2 d3 h0 htwo hs
      rintro e w3 ⟨rfl, h3⟩
      have H3 := Lib.hid (HB1.out.trans (h3.mono (by simp; omega)))
      have X2 := Lib.hid ((h3.block (w.heap.size + 1) (by simp)).trans (heap_mid w _ _))
      have X1 := Lib.hid ((h3.block w.heap.size (by simp; omega)).trans (heap_mid0 w _ _))
      have H3S := Lib.hid h3.size
      clear h3
      have hz := Nat.lt_of_lt_of_le (show w.heap.size + 1 < _ by simp) H3S.out
      have W1 := (Below.heap_alloc w3 (Obj.cells #[.int .i64 0, .string noName, .int .i64 0] 31) w.heap.size (by omega)).trans X1.out
      have W2 := (Below.heap_alloc w3 (Obj.cells #[.int .i64 0, .string noName, .int .i64 0] 31) (w.heap.size + 1) hz).trans X2.out
      obtain ⟨y0, y1, y2, y3⟩ := box4 W1
      have Y1 := Lib.hid W1
      have Y2 := Lib.hid W2
      have HZ := Lib.hid hz
      have hw := H3.out.alloc H3.out.size (Obj.cells #[.int .i64 0, .string noName, .int .i64 0] 31)
      obtain ⟨e0, e1, e2, e3⟩ := HC1.out _ hw
      have HW := Lib.hid hw
      clear W1 W2 hz hw
      simp only [evPair]
      go_wp2_with fail
      refine (h1r _ _ ((HT1.out.below HW.out).more HW.out.size)).mono ?_
      rintro e w4 ⟨rfl, h4⟩
      have H4 := Lib.hid (HW.out.trans (h4.mono HW.out.size))
      have V1 := Lib.hid ((h4.block w.heap.size (by have := HZ.out; simp; omega)).trans Y1.out)
      have V2 := Lib.hid ((h4.block (w.heap.size + 1) (by have := HZ.out; simp; omega)).trans Y2.out)
      clear h4 y0 y1 y2 y3 e0 e1 e2 e3
      have hz := World.lt_of_heap V2.out
      obtain ⟨q0, q1, q2⟩ := box3 V2.out
      have f0 : w4.frozen? ⟨w.heap.size + 1, 0, none⟩ = false := by simp [World.frozen?, V2.out]
      have f1 : w4.frozen? ⟨w.heap.size + 1, 1, none⟩ = false := by simp [World.frozen?, V2.out]
      have f2 : w4.frozen? ⟨w.heap.size + 1, 2, none⟩ = false := by simp [World.frozen?, V2.out]
      simp only [evPair]
      go_wp2_with fail
      have Y2 := (((Below.refl w4.heap.size w4).alloc (Nat.le_refl _) (Obj.cells #[.int .i64 fk, .string fs, .int .i64 fn] 31)).block (w.heap.size + 1) (by omega)).trans V2.out
      have Y3 := heap_alloc_new w4 (Obj.cells #[.int .i64 fk, .string fs, .int .i64 fn] 31)
      obtain ⟨y0, y1, y2⟩ := box3 Y2
      obtain ⟨z0, z1, z2⟩ := box3 Y3
      have g0 : (w4.alloc (Obj.cells #[.int .i64 fk, .string fs, .int .i64 fn] 31)).frozen? ⟨w.heap.size + 1, 0, none⟩ = false := by simp [World.frozen?, Y2]
      have g1 : (w4.alloc (Obj.cells #[.int .i64 fk, .string fs, .int .i64 fn] 31)).frozen? ⟨w.heap.size + 1, 1, none⟩ = false := by simp [World.frozen?, Y2]
      have g2 : (w4.alloc (Obj.cells #[.int .i64 fk, .string fs, .int .i64 fn] 31)).frozen? ⟨w.heap.size + 1, 2, none⟩ = false := by simp [World.frozen?, Y2]
      have HE := Lib.hid (((((H4.out.setCell (p := ⟨w.heap.size + 1, 0, none⟩) (by simp) (.int .i64 fk)).setCell (p := ⟨w.heap.size + 1, 1, none⟩) (by simp) (.string fs)).setCell (p := ⟨w.heap.size + 1, 2, none⟩) (by simp) (.int .i64 fn)).alloc (by simp; exact H4.out.size) (Obj.cells #[.int .i64 fk, .string fs, .int .i64 fn] 31)).drew)
      have Z := (Below.heap_alloc _ (Obj.cells #[.int .i64 fk, .string fs, .int .i64 fn] 31) _ (by simp; omega)).trans (Blk.set_ (Blk.set_ (Blk.set_ V2.out 0 (.int .i64 fk)) 1 (.string fs)) 2 (.int .i64 fn))
      have ZZ := Lib.hid Z
      clear Z
      clear Y2 Y3
      go_region
      go_wp2_with fail
      clear q0 q1 q2 f0 f1 f2 y0 y1 y2 g0 g1 g2 z0 z1 z2
      obtain ⟨q0, q1, q2⟩ := box3 ZZ.out
      refine bodyPost_ret (v := (.tuple #[.int .i64 0, .agg #[.int .i64 fk, .string fs, .int .i64 fn]])) (by simp [results, go_sem, q0, q1, q2]) rfl ?_
      exact ⟨rfl, HE.out⟩
  · have hk := k0 fk fs fn rfl
    clear k0 b0 k1 b1
    show Calls _ _ _ _ fun e w' => e = evPair (.flt fk fs fn) ∧ _
    go_enter Try.func11, Try.ntmps11
    go_wp2_with fail
    refine (htwo _).mono ?_
    rintro e w1 ⟨rfl, rfl⟩
    go_wp2_with fail
    refine (h0 _ _ ((HT0.out.below HB1.out).more (by simp; omega))).mono ?_
    clear d0 d1 d2 d3 h0 htwo hs h1r
    rintro e w3 ⟨rfl, h3⟩
    have H3 := Lib.hid (HB1.out.trans (h3.mono (by simp; omega)))
    have X2 := Lib.hid ((h3.block (w.heap.size + 1) (by simp)).trans (heap_mid w _ _))
    have X1 := Lib.hid ((h3.block w.heap.size (by simp; omega)).trans (heap_mid0 w _ _))
    have H3S := Lib.hid h3.size
    clear h3
    have hz := Nat.lt_of_lt_of_le (show w.heap.size + 1 < _ by simp) H3S.out
    obtain ⟨x0, x1, x2, x3⟩ := box4 X1.out
    obtain ⟨q0, q1, q2⟩ := box3 X2.out
    have f0 : w3.frozen? ⟨w.heap.size + 1, 0, none⟩ = false := by simp [World.frozen?, X2.out]
    have f1 : w3.frozen? ⟨w.heap.size + 1, 1, none⟩ = false := by simp [World.frozen?, X2.out]
    have f2 : w3.frozen? ⟨w.heap.size + 1, 2, none⟩ = false := by simp [World.frozen?, X2.out]
    simp only [evPair]
    go_wp2_with fail
    clear x0 x1 x2 x3
    have Y2 := (((Below.refl w3.heap.size w3).alloc (Nat.le_refl _) (Obj.cells #[.int .i64 fk, .string fs, .int .i64 fn] 31)).block (w.heap.size + 1) (by omega)).trans X2.out
    have Y3 := heap_alloc_new w3 (Obj.cells #[.int .i64 fk, .string fs, .int .i64 fn] 31)
    obtain ⟨y0, y1, y2⟩ := box3 Y2
    obtain ⟨z0, z1, z2⟩ := box3 Y3
    have g0 : (w3.alloc (Obj.cells #[.int .i64 fk, .string fs, .int .i64 fn] 31)).frozen? ⟨w.heap.size + 1, 0, none⟩ = false := by simp [World.frozen?, Y2]
    have g1 : (w3.alloc (Obj.cells #[.int .i64 fk, .string fs, .int .i64 fn] 31)).frozen? ⟨w.heap.size + 1, 1, none⟩ = false := by simp [World.frozen?, Y2]
    have g2 : (w3.alloc (Obj.cells #[.int .i64 fk, .string fs, .int .i64 fn] 31)).frozen? ⟨w.heap.size + 1, 2, none⟩ = false := by simp [World.frozen?, Y2]
    have HE := Lib.hid (((((H3.out.setCell (p := ⟨w.heap.size + 1, 0, none⟩) (by simp) (.int .i64 fk)).setCell (p := ⟨w.heap.size + 1, 1, none⟩) (by simp) (.string fs)).setCell (p := ⟨w.heap.size + 1, 2, none⟩) (by simp) (.int .i64 fn)).alloc (by simp; exact H3.out.size) (Obj.cells #[.int .i64 fk, .string fs, .int .i64 fn] 31)).drew)
    have Z := (Below.heap_alloc _ (Obj.cells #[.int .i64 fk, .string fs, .int .i64 fn] 31) _ (by simp; omega)).trans (Blk.set_ (Blk.set_ (Blk.set_ X2.out 0 (.int .i64 fk)) 1 (.string fs)) 2 (.int .i64 fn))
    have ZZ := Lib.hid Z
    clear Z
    clear Y2 Y3
    go_region
    go_wp2_with fail
    clear q0 q1 q2 f0 f1 f2 y0 y1 y2 g0 g1 g2 z0 z1 z2
    obtain ⟨q0, q1, q2⟩ := box3 ZZ.out
    refine bodyPost_ret (v := (.tuple #[.int .i64 0, .agg #[.int .i64 fk, .string fs, .int .i64 fn]])) (by simp [results, go_sem, q0, q1, q2]) rfl ?_
    exact ⟨rfl, HE.out⟩
end Go.Proofs.Ytifjdfdjojkagaa
