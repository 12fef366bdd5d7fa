/- The walk through the law WakeDifs. -/
import Derived.Test.YtjjkigphfijnbaaDif2
import Derived.Test.YtjjkigphfijnbaaWOne
namespace Go.Proofs.Ytjjkigphfijnbaa
open Go.RowKit

/-- Where a law of layer 18 stands: the boxes of both sides. -/
structure WS (w w' : World) (g h : Nat) (ca cb : Array Value) (a b : T) : Prop where
  ga : w'.heap[g]? = some (.cells ca 34 (0, 0))
  gb : w'.heap[h]? = some (.cells cb 34 (0, 0))
  ta : TP w' (fun _ => True) a (.agg ca)
  tb : TP w' (fun _ => True) b (.agg cb)
  low : Below w.heap.size w w'
theorem WS.below {w w' w'' : World} {g h : Nat} {ca cb : Array Value} {a b : T} (k : WS w w' g h ca cb a b) (hb : Below w'.heap.size w' w'') : WS w w'' g h ca cb a b :=
  ⟨(hb.block _ (heap_lt k.ga)).trans k.ga, (hb.block _ (heap_lt k.gb)).trans k.gb, k.ta.below hb, k.tb.below hb, k.low.trans (hb.mono k.low.size)⟩
theorem difL_few (r : Res) : (difL r).length ≤ 2 := by
  cases r with
  | unlike => simp [difL]
  | many => simp [difL]
  | ok L f => cases L with
    | nil => simp [difL]
    | cons p M =>
      simp only [difL, varL, List.length_cons]
      split <;> simp
set_option maxRecDepth 100000 in
set_option maxHeartbeats 8000000 in
theorem wakeDifs_any (s : ByteArray) (w : World) : Calls Try.prog 8 #[.string s] w fun e w' => e = .returned (.bool true) ∧ Below w.heap.size w w' := by
  go_enter Try.func8, Try.ntmps8
  go_wp2_with fail
  refine (sides_any s _).mono ?_
  rintro e w1 ⟨⟨k0, k1, k2, A0, m0, c0, j0, j1, j2, B0, n0, d0, a, b, rfl, ta, tb, oa, ob⟩, h1⟩
  obtain ⟨W, hW⟩ : ∃ W, W = (w1.alloc (Obj.cells #[.int .i64 k0, .int .i64 k1, .string k2, .slice A0 m0 c0] 34)).alloc (Obj.cells #[.int .i64 j0, .int .i64 j1, .string j2, .slice B0 n0 d0] 34) := ⟨_, rfl⟩
  have BW : Below w1.heap.size w1 W := by rw [hW]; exact belA (belA (Below.refl _ _) _) _
  have F := Lib.hid (show WS w W w1.heap.size (w1.heap.size + 1) #[.int .i64 k0, .int .i64 k1, .string k2, .slice A0 m0 c0] #[.int .i64 j0, .int .i64 j1, .string j2, .slice B0 n0 d0] a b from
    ⟨by rw [hW]; exact (Below.heap_alloc _ _ _ (by simp)).trans (heap_alloc_new _ _), by rw [hW]; exact (congrArg _ (by simp)).trans (heap_alloc_new _ _), ta.below BW, tb.below BW, h1.trans (BW.mono h1.size)⟩)
  have HW := Lib.hid hW
  obtain ⟨r, hr⟩ : ∃ r, uniF 2000 [] [(a, b)] = r := ⟨_, rfl⟩
  have R1 := Lib.hid hr
  have R2 := Lib.hid (show uniF 2000 [] [(b, a)] = r by rw [uni_swap]; exact hr)
  have S3 := Lib.hid (dif_self oa)
  obtain ⟨r3, hr3⟩ : ∃ r, uniF 2000 [] [(a, a)] = r := ⟨_, rfl⟩
  have R3 := Lib.hid hr3
  rw [hr3] at S3
  have OA := Lib.hid oa
  have OB := Lib.hid ob
  have hfew := difL_few r
  clear ta tb oa ob h1 BW hr hr3 hW
  obtain ⟨x0, x1, x2, x3⟩ := box4 F.out.ga
  obtain ⟨y0, y1, y2, y3⟩ := box4 F.out.gb
  have C1 := Lib.hid (pdif_any F.out.ta F.out.tb OA.out OB.out R1.out)
  go_upto_region 2 with fail
  rw [← HW.out]
  go_wp2_with fail
  refine C1.out.mono ?_
  rintro e w2 ⟨⟨UA, uc, rfl, hu2⟩, h2⟩
  have F2 := Lib.hid (F.out.below h2)
  have U2 := Lib.hid hu2
  clear h2 hu2 x0 x1 x2 x3 y0 y1 y2 y3 F C1
  obtain ⟨x0, x1, x2, x3⟩ := box4 F2.out.ga
  obtain ⟨y0, y1, y2, y3⟩ := box4 F2.out.gb
  have C2 := Lib.hid (rdif_any F2.out.ta F2.out.tb OA.out OB.out R1.out)
  go_wp2_with fail
  refine C2.out.mono ?_
  rintro e w3 ⟨⟨VA, vc, rfl, hu3⟩, h3⟩
  have F3 := Lib.hid (F2.out.below h3)
  have U3 := Lib.hid (U2.out.below h3)
  have V3 := Lib.hid hu3
  clear h3 hu3 x0 x1 x2 x3 y0 y1 y2 y3 F2 U2 C2
  obtain ⟨x0, x1, x2, x3⟩ := box4 F3.out.ga
  obtain ⟨y0, y1, y2, y3⟩ := box4 F3.out.gb
  have C3 := Lib.hid (pdif_any F3.out.tb F3.out.ta OB.out OA.out R2.out)
  go_wp2_with fail
  refine C3.out.mono ?_
  rintro e w4 ⟨⟨XA, xc, rfl, hu4⟩, h4⟩
  have F4 := Lib.hid (F3.out.below h4)
  have U4 := Lib.hid (U3.out.below h4)
  have V4 := Lib.hid (V3.out.below h4)
  have X4 := Lib.hid hu4
  clear h4 hu4 x0 x1 x2 x3 y0 y1 y2 y3 F3 U3 V3 C3
  obtain ⟨x0, x1, x2, x3⟩ := box4 F4.out.ga
  obtain ⟨y0, y1, y2, y3⟩ := box4 F4.out.gb
  have C4 := Lib.hid (pdif_any F4.out.ta F4.out.ta OA.out OA.out R3.out)
  go_wp2_with fail
  refine C4.out.mono ?_
  rintro e w5 ⟨⟨YA, yc, rfl, hu5⟩, h5⟩
  have F5 := Lib.hid (F4.out.below h5)
  have U5 := Lib.hid (U4.out.below h5)
  have V5 := Lib.hid (V4.out.below h5)
  have X5 := Lib.hid (X4.out.below h5)
  have hl3 : (((difL r3).length : Int) == 0) = true := by rw [S3.out.2]; rfl
  have hn3 := S3.out.1
  obtain ⟨z, hz⟩ : ∃ z, difN r = z := ⟨_, rfl⟩
  obtain ⟨z3, hz3⟩ : ∃ z, difN r3 = z := ⟨_, rfl⟩
  rw [hz3] at hn3
  have hzz : (z == z) = true := by simp
  clear h5 hu5 x0 x1 x2 x3 y0 y1 y2 y3 F4 U4 V4 X4 C4
  have C6 := Lib.hid (wsame_any U5.out V5.out (by omega))
  have HZ := Lib.hid hz
  have HZ3 := Lib.hid hz3
  rcases hn3 with rfl | rfl
  all_goals
    rw [HZ3.out, HZ.out]
    clear hz hz3
    go_wp2_with fail
    refine C6.out.mono ?_
    rintro e w6 ⟨rfl, h6⟩
    have F6 := Lib.hid (F5.out.below h6)
    have C7 := Lib.hid (wsame_any (X5.out.below h6) (U5.out.below h6) (by omega))
    clear h6
    go_wp2_with fail
    refine C7.out.mono ?_
    rintro e w7 ⟨rfl, h7⟩
    have F7 := Lib.hid (F6.out.below h7)
    clear h7
    go_wp2_with fail
    go_ret
    exact ⟨rfl, F7.out.low⟩
end Go.Proofs.Ytjjkigphfijnbaa
