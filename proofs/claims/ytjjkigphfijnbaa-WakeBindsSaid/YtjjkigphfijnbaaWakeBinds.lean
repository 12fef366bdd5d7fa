/- The walk through the law WakeBinds. -/
import Derived.Test.YtjjkigphfijnbaaWakeDifs
import Derived.Test.YtjjkigphfijnbaaSub
import Derived.Test.YtjjkigphfijnbaaCmp
namespace Go.Proofs.Ytjjkigphfijnbaa
open Go.RowKit

/-- Where the loop stands that makes a row of no terms. -/
structure ZR (w w' : World) (n : Nat) (v : Value) (xs : List Value) : Prop where
  own : w'.ownsRow w.heap.size 34 4 v n xs
  z : ∀ q, q < n → xs[4 * q]? = some (.int .i64 0)
theorem ZR.push {w w2 : World} {n : Nat} {v' : Value} {xs : List Value} (h : ∀ q, q < n → xs[4 * q]? = some (.int .i64 0)) (hl : xs.length = n * 4) (hown : w2.ownsRow w.heap.size 34 4 v' (n + 1) (xs ++ [.int .i64 0, .int .i64 0, .string ⟨#[]⟩, .slice none 0 0])) : ZR w w2 (n + 1) v' (xs ++ [.int .i64 0, .int .i64 0, .string ⟨#[]⟩, .slice none 0 0]) :=
  ⟨hown, fun q hq => by
    rcases Nat.lt_or_ge q n with h1 | h1
    · rw [List.getElem?_append_left (by omega)]; exact h q h1
    · obtain rfl : q = n := by omega
      rw [List.getElem?_append_right (by omega), hl, show 4 * q - q * 4 = 0 by omega]; rfl⟩
/-- The row, with the atom stored into it. -/
theorem sub1_of {w0 w W : World} {g n c v : Nat} {nm : ByteArray} {xs : List Value} (h : ZR w0 w n (.slice (some ⟨g, 0, none⟩) n c) xs) (hv : v < n) (hn : n ≤ 400)
    (hW : W = (((w.setCell ⟨g, v * 4, none⟩ (.int .i64 3)).setCell ⟨g, v * 4 + 1, none⟩ (.int .i64 0)).setCell ⟨g, v * 4 + 2, none⟩ (.string nm)).setCell ⟨g, v * 4 + 3, none⟩ (.slice none 0 0)) :
    Sub1 W g n v nm ∧ (∀ b, b ≠ g → W.heap[b]? = w.heap[b]?) ∧ ∀ B, B ≤ g → ∀ w1, Below B w1 w → Below B w1 W := by
  obtain ⟨A, c', e, _, _, _, hx⟩ := own_open h.own
  obtain ⟨g', cur, e', _, hh, hcur⟩ := hx (by omega)
  injection e with e _ _
  rw [e'] at e
  injection e with e
  injection e with e _ _
  subst e
  have hl := own_len h.own
  have hsz : n * 4 ≤ cur.size := by
    have h1 := hcur (n * 4 - 1) (by omega)
    rw [List.getElem?_eq_getElem (by omega)] at h1
    have := (Array.getElem?_eq_some_iff.mp h1).1
    omega
  have keep : ∀ b, b ≠ g → W.heap[b]? = w.heap[b]? := fun b hne => by
    rw [hW, Below.heap_setCell _ _ _ b hne, Below.heap_setCell _ _ _ b hne, Below.heap_setCell _ _ _ b hne, Below.heap_setCell _ _ _ b hne]
  have hnew : W.heap[g]? = some (.cells ((((cur.setIfInBounds (v * 4) (.int .i64 3)).setIfInBounds (v * 4 + 1) (.int .i64 0)).setIfInBounds (v * 4 + 2) (.string nm)).setIfInBounds (v * 4 + 3) (.slice none 0 0)) 34 (0, 0)) := by
    rw [hW]
    exact blk_set (blk_set (blk_set (blk_set hh (v * 4) (.int .i64 3)) (v * 4 + 1) (.int .i64 0)) (v * 4 + 2) (.string nm)) (v * 4 + 3) (.slice none 0 0)
  refine ⟨⟨⟨_, (0, 0), hnew, fun i hi hne => ?_, ?_, ?_, ?_, ?_⟩, hv, hn⟩, keep, fun B hB w1 hb => ?_⟩
  · rw [Array.getElem?_setIfInBounds_ne (by omega), Array.getElem?_setIfInBounds_ne (by omega), Array.getElem?_setIfInBounds_ne (by omega), Array.getElem?_setIfInBounds_ne (by omega)]
    rw [hcur _ (by omega), Nat.mul_comm i 4]
    exact h.z i hi
  · simp [Array.getElem?_setIfInBounds]; omega
  · simp [Array.getElem?_setIfInBounds]; omega
  · simp [Array.getElem?_setIfInBounds]; omega
  · simp [Array.getElem?_setIfInBounds]; omega
  · rw [hW]
    exact (((hb.setCell (p := ⟨g, v * 4, none⟩) hB _).setCell (p := ⟨g, v * 4 + 1, none⟩) hB _).setCell (p := ⟨g, v * 4 + 2, none⟩) hB _).setCell (p := ⟨g, v * 4 + 3, none⟩) hB _
def inNeither : ByteArray := ⟨#[105, 110, 32, 110, 101, 105, 116, 104, 101, 114, 32, 111, 102, 32, 116, 104, 101, 109]⟩
set_option maxRecDepth 100000 in
set_option maxHeartbeats 16000000 in
theorem wakeBinds_any (s : ByteArray) (w : World) : Calls Try.prog 7 #[.string s] w fun e w' => e = .returned (.bool true) ∧ Below w.heap.size w w' := by
  go_enter Try.func7, Try.ntmps7
  go_wp2_with fail
  refine (sides_any s _).mono ?_
  rintro e w1 ⟨⟨k0, k1, k2, A0, m0, c0, j0, j1, j2, B0, n0, d0, a, b, rfl, ta, tb, oa, ob⟩, h1⟩
  obtain ⟨W, hW⟩ : ∃ W, W = (w1.alloc (Obj.cells #[.int .i64 k0, .int .i64 k1, .string k2, .slice A0 m0 c0] 34)).alloc (Obj.cells #[.int .i64 j0, .int .i64 j1, .string j2, .slice B0 n0 d0] 34) := ⟨_, rfl⟩
  have BW : Below w1.heap.size w1 W := by rw [hW]; exact belA (belA (Below.refl _ _) _) _
  have F := Lib.hid (show WS w W w1.heap.size (w1.heap.size + 1) #[.int .i64 k0, .int .i64 k1, .string k2, .slice A0 m0 c0] #[.int .i64 j0, .int .i64 j1, .string j2, .slice B0 n0 d0] a b from
    ⟨by rw [hW]; exact (Below.heap_alloc _ _ _ (by simp)).trans (heap_alloc_new _ _), by rw [hW]; exact (congrArg _ (by simp)).trans (heap_alloc_new _ _), ta.below BW, tb.below BW, h1.trans (BW.mono h1.size)⟩)
  have HW := Lib.hid hW
  obtain ⟨r, hr⟩ : ∃ r, uniF 2000 [] [(a, b)] = r := ⟨_, rfl⟩
  have R1 := Lib.hid hr
  have OA := Lib.hid oa
  have OB := Lib.hid ob
  have hfew := difL_few r
  clear ta tb oa ob h1 BW hr hW
  obtain ⟨x0, x1, x2, x3⟩ := box4 F.out.ga
  obtain ⟨y0, y1, y2, y3⟩ := box4 F.out.gb
  have C1 := Lib.hid (pdif_any F.out.ta F.out.tb OA.out OB.out R1.out)
  go_upto_region 2 with fail
  rw [← HW.out]
  go_wp2_with fail
  refine C1.out.mono ?_
  rintro e w2 ⟨⟨UA, uc, rfl, hu2⟩, h2⟩
  have F2 := Lib.hid (F.out.below h2)
  have U2 := Lib.hid hu2
  clear h2 hu2 x0 x1 x2 x3 y0 y1 y2 y3 F C1
  obtain ⟨x0, x1, x2, x3⟩ := box4 F2.out.ga
  obtain ⟨y0, y1, y2, y3⟩ := box4 F2.out.gb
  have C2 := Lib.hid (rdif_any F2.out.ta F2.out.tb OA.out OB.out R1.out)
  go_wp2_with fail
  refine C2.out.mono ?_
  rintro e w3 ⟨⟨VA, vc, rfl, hu3⟩, h3⟩
  have F3 := Lib.hid (F2.out.below h3)
  have U3 := Lib.hid (U2.out.below h3)
  have V3 := Lib.hid hu3
  clear h3 hu3 x0 x1 x2 x3 y0 y1 y2 y3 F2 U2 C2
  have hzz : (difN r != difN r) = false := by simp
  have C6 := Lib.hid (wsame_any U3.out V3.out (by omega))
  have hcase : (difN r ≠ 0 ∧ difL r = []) ∨ ∃ p M f, r = .ok (p :: M) f := by
    cases r with
    | unlike => exact .inl ⟨by decide, rfl⟩
    | many => exact .inl ⟨by decide, rfl⟩
    | ok L f => cases L with
      | nil => exact .inl ⟨by simp [difN], rfl⟩
      | cons p M => exact .inr ⟨p, M, f, rfl⟩
  have HC := Lib.hid hcase
  obtain ⟨z, hz⟩ : ∃ z, difN r = z := ⟨_, rfl⟩
  have HZ := Lib.hid hz
  rw [hz] at hzz
  rw [HZ.out]
  clear hcase hz
  go_wp2_with fail
  refine C6.out.mono ?_
  rintro e w4 ⟨rfl, h4⟩
  have F4 := Lib.hid (F3.out.below h4)
  have U4 := Lib.hid (U3.out.below h4)
  clear h4 F3 U3 V3 C6
  rcases HC.out with ⟨h1, h2⟩ | ⟨p, M, f, rfl⟩
  · have hz1 : (z != 0) = true := by rw [← HZ.out]; simpa using h1
    have hl : (((difL r).length : Int) == 0) = true := by rw [h2]; rfl
    clear h1 h2
    go_wp2_with fail
    go_ret
    exact ⟨rfl, F4.out.low⟩
  · have hz0 : z = 0 := HZ.out.symm
    subst hz0
    have hl : (((difL (.ok (p :: M) f)).length : Int) == 0) = false := by
      rw [beq_eq_false_iff_ne]; simp [difL]; omega
    obtain ⟨hE, _, _⟩ := uniF_ok 2000 [] [(a, b)] EnvOk.nil (fun q hq => by simp at hq; subst hq; exact ⟨OA.out, OB.out⟩) _ _ R1.out
    obtain ⟨hp0, hp1, _⟩ := hE.ok p List.mem_cons_self
    obtain ⟨v, hv⟩ : ∃ v : Nat, p.1 = (v : Int) := ⟨p.1.toNat, by omega⟩
    have hv1 : v < 1000 := by omega
    obtain ⟨_, _, e9, _, _, hux⟩ := U4.out.open_
    injection e9 with e91 _ e92
    subst e91; subst e92
    obtain ⟨gu, rfl, hgu, cu⟩ := hux 0 p.1 rfl
    rw [hv] at cu
    have hlen : (0 : Int) < ((difL (.ok (p :: M) f)).length : Int) := by simp [difL] <;> omega
    obtain ⟨ll, hll⟩ : ∃ ll, (difL (.ok (p :: M) f)).length = ll := ⟨_, rfl⟩
    have CU := Lib.hid cu
    obtain ⟨item, ii1, ii2, ii3, ii4⟩ := elTerm.hi
    obtain ⟨x0, x1, x2, x3⟩ := box4 F4.out.ga
    rw [hll] at hl hlen ⊢
    clear hux hE hp0 hp1 hv hll hlen HC
    have hll0 : (0 : Int) < (ll : Int) := by
      rcases Nat.eq_zero_or_pos ll with h | h
      · subst h; simp at hl
      · omega
    go_wp2_with fail
    go_loopw [9, 10] (fun tv iv wr => ∃ (i : Nat) (xs : List Value), iv = .int .i64 (i : Int) ∧ i ≤ 400 ∧ i ≤ v + 1 ∧ ZR w4 wr i tv xs ∧ Below w4.heap.size w4 wr) (fun _ iv _ => 400 - (intOf iv).toNat)
    case atStart => exact ⟨0, [], rfl, by omega, by omega, ⟨ownsRow_empty _ _ 4 _ (heap_alloc_new _ _), fun q hq => absurd hq (by omega)⟩, belA (Below.refl _ _) _⟩
    case round =>
      obtain ⟨i, xs, rfl, hi, hiv, hzr, hb⟩ := hrel
      obtain ⟨TA, tc, rfl, _, _, _, htx⟩ := own_open hzr.own
      have HZR := Lib.hid hzr
      have HB := Lib.hid hb
      have hbs := hb.size
      have c0 := (hb.cell (p := ⟨gu, 0, none⟩) hgu).trans cu
      clear hzr hb
      by_cases hc : i ≤ v ∧ i < 400
      · obtain ⟨hc1, hc2⟩ := hc
        have hc1' : (i : Int) ≤ (v : Int) := by omega
        have hc2' : (i : Int) < 400 := by omega
        clear htx
        go_wp2_with (at_builtin; go_must (refine wpList_append_lies _ rfl _ _ _ rfl w4.heap.size 34 item (.agg #[.int .i64 0, .int .i64 0, .string ⟨#[]⟩, .slice none 0 0]) 4 56 Try.underlying32 ii1 ii2 ii3 ii4 rfl (by omega) _ i _ rfl (own_below HZR.out.own (belA (Below.refl _ _) _)) ⟨wr.heap.size, 0, none⟩ 1 1 [.int .i64 0, .int .i64 0, .string ⟨#[]⟩, .slice none 0 0] rfl rfl (World.news_of_block (heap_alloc_new _ _)) ?_ (by omega) (by unfold maxLen; omega) (by omega) (by simp; omega) _ rfl ?_))
        · intro u hu
          simp only [List.mem_cons, List.not_mem_nil, or_false] at hu
          rcases hu with rfl | rfl | rfl | rfl <;> rfl
        intro g1 cap1 w9 hown1 hg1 hat1 _
        have Z9 := Lib.hid (ZR.push HZR.out.z (own_len HZR.out.own) hown1)
        have B9 := Lib.hid ((HB.out.trans ((belA (Below.refl _ _) (Obj.cells #[.int .i64 0, .int .i64 0, .string ⟨#[]⟩, .slice none 0 0] 34)).mono hbs)).grown hg1 (by simp; omega) fun k hk => (HZR.out.own.lt k hk).1)
        clear hown1 hg1 hat1 c0
        go_wp2_with fail
        go_roundw
        case rel => exact ⟨i + 1, _, by go_num, by omega, by omega, Z9.out, B9.out⟩
        case measure => simp [intOf]; omega
      · by_cases hvi : v < i
        · have hvi' : (v : Int) < (i : Int) := by omega
          have hvi2 : ¬ (i : Int) ≤ (v : Int) := by omega
          obtain ⟨g, cur, rfl, hgb, hgc, hcur⟩ := htx (by omega)
          have hv0 : (0 : Int) ≤ (v : Int) := by omega
          have FR := Lib.hid (F4.out.below HB.out)
          have hgl := heap_lt hgc
          have hsz : i * 4 ≤ cur.size := by
            have h1 := hcur (i * 4 - 1) (by omega)
            have hl := own_len HZR.out.own
            rw [List.getElem?_eq_getElem (by omega)] at h1
            have := (Array.getElem?_eq_some_iff.mp h1).1
            omega
          have rc := fun (j : Nat) (hj : j < cur.size) => (cell_of_row wr g j _ _ _ hgc).trans (Array.getElem?_eq_getElem hj)
          have r0 := rc (v * 4) (by omega)
          have r1 := rc (v * 4 + 1) (by omega)
          have r2 := rc (v * 4 + 2) (by omega)
          have r3 := rc (v * 4 + 3) (by omega)
          have rf : ∀ j, wr.frozen? ⟨g, j, none⟩ = false := fun j => by simp [World.frozen?, hgc]
          obtain ⟨W, hW⟩ : ∃ W, W = (((wr.setCell ⟨g, v * 4, none⟩ (.int .i64 3)).setCell ⟨g, v * 4 + 1, none⟩ (.int .i64 0)).setCell ⟨g, v * 4 + 2, none⟩ (.string ⟨#[105, 110, 32, 110, 101, 105, 116, 104, 101, 114, 32, 111, 102, 32, 116, 104, 101, 109]⟩)).setCell ⟨g, v * 4 + 3, none⟩ (.slice none 0 0) := ⟨_, rfl⟩
          have SB := Lib.hid (sub1_of HZR.out hvi hi hW)
          have HW := Lib.hid hW
          have BW := Lib.hid (SB.out.2.2 _ hgb _ HB.out)
          have FW := Lib.hid (F4.out.below BW.out)
          clear hW htx hcur rc hgc hc
          obtain ⟨x0, x1, x2, x3⟩ := box4 FW.out.ga
          obtain ⟨y0, y1, y2, y3⟩ := box4 FW.out.gb
          have C1 := Lib.hid (subv_any v ⟨#[105, 110, 32, 110, 101, 105, 116, 104, 101, 114, 32, 111, 102, 32, 116, 104, 101, 109]⟩ a OA.out _ W W g i tc FW.out.ta SB.out.1 (Below.refl _ _))
          go_upto_region 16 with fail
          rw [← HW.out]
          go_wp2_with fail
          refine C1.out.mono ?_
          rintro e w7 ⟨⟨vx, rfl, htx⟩, h7⟩
          obtain ⟨e0, e1, e2, EA, em, ec, rfl⟩ := htx.agg
          have B7 := Lib.hid (belA h7 (Obj.cells #[.int .i64 e0, .int .i64 e1, .string e2, .slice EA em ec] 34))
          obtain ⟨W7, hW7⟩ : ∃ W7, W7 = w7.alloc (Obj.cells #[.int .i64 e0, .int .i64 e1, .string e2, .slice EA em ec] 34) := ⟨_, rfl⟩
          rw [← hW7] at B7
          have X7 := Lib.hid (show W7.heap[w7.heap.size]? = some (.cells #[.int .i64 e0, .int .i64 e1, .string e2, .slice EA em ec] 34 (0, 0)) by rw [hW7]; exact heap_alloc_new _ _)
          have TX7 := Lib.hid ((htx.more (S' := fun _ => True) fun _ _ => trivial).below (show Below w7.heap.size w7 W7 by rw [hW7]; exact belA (Below.refl _ _) _))
          have F7 := Lib.hid (FW.out.below B7.out)
          have HW7 := Lib.hid hW7
          clear htx h7 hW7 x0 x1 x2 x3 y0 y1 y2 y3
          obtain ⟨y0, y1, y2, y3⟩ := box4 F7.out.gb
          have C2 := Lib.hid (subv_any v ⟨#[105, 110, 32, 110, 101, 105, 116, 104, 101, 114, 32, 111, 102, 32, 116, 104, 101, 109]⟩ b OB.out _ W7 W7 g i tc F7.out.tb (SB.out.1.below B7.out) (Below.refl _ _))
          go_upto_region 17 with fail
          rw [← HW7.out]
          go_wp2_with fail
          refine C2.out.mono ?_
          rintro e w8 ⟨⟨vy, rfl, hty⟩, h8⟩
          obtain ⟨f0, f1, f2, FA, fm, fc, rfl⟩ := hty.agg
          obtain ⟨W8, hW8⟩ : ∃ W8, W8 = w8.alloc (Obj.cells #[.int .i64 f0, .int .i64 f1, .string f2, .slice FA fm fc] 34) := ⟨_, rfl⟩
          have B8 : Below w8.heap.size w8 W8 := by rw [hW8]; exact belA (Below.refl _ _) _
          have B78 : Below W7.heap.size W7 W8 := h8.trans (B8.mono h8.size)
          have X := Lib.hid (show WS w W8 w7.heap.size w8.heap.size #[.int .i64 e0, .int .i64 e1, .string e2, .slice EA em ec] #[.int .i64 f0, .int .i64 f1, .string f2, .slice FA fm fc] (subAt v ⟨#[105, 110, 32, 110, 101, 105, 116, 104, 101, 114, 32, 111, 102, 32, 116, 104, 101, 109]⟩ a) (subAt v ⟨#[105, 110, 32, 110, 101, 105, 116, 104, 101, 114, 32, 111, 102, 32, 116, 104, 101, 109]⟩ b) from
            ⟨(B78.block _ (heap_lt X7.out)).trans X7.out, by rw [hW8]; exact heap_alloc_new _ _, TX7.out.below B78, (hty.more fun _ _ => trivial).below B8, F7.out.low.trans (B78.mono F7.out.low.size)⟩)
          have HW8 := Lib.hid hW8
          have OX := Lib.hid (subAt_ok (v := v) (nm := ⟨#[105, 110, 32, 110, 101, 105, 116, 104, 101, 114, 32, 111, 102, 32, 116, 104, 101, 109]⟩) (by decide) OA.out)
          have OY := Lib.hid (subAt_ok (v := v) (nm := ⟨#[105, 110, 32, 110, 101, 105, 116, 104, 101, 114, 32, 111, 102, 32, 116, 104, 101, 109]⟩) (by decide) OB.out)
          clear hty h8 hW8 B8 B78 y0 y1 y2 y3 C1 C2
          obtain ⟨x, hx⟩ : ∃ x, subAt v ⟨#[105, 110, 32, 110, 101, 105, 116, 104, 101, 114, 32, 111, 102, 32, 116, 104, 101, 109]⟩ a = x := ⟨_, rfl⟩
          obtain ⟨y, hy⟩ : ∃ y, subAt v ⟨#[105, 110, 32, 110, 101, 105, 116, 104, 101, 114, 32, 111, 102, 32, 116, 104, 101, 109]⟩ b = y := ⟨_, rfl⟩
          rw [hx, hy] at X
          rw [hx] at OX
          rw [hy] at OY
          clear hx hy
          obtain ⟨r', hr'⟩ : ∃ r, uniF 2000 [] [(x, y)] = r := ⟨_, rfl⟩
          have RR := Lib.hid hr'
          have DS := Lib.hid (dif_same OX.out OY.out)
          rw [hr'] at DS
          clear hr'
          obtain ⟨x0, x1, x2, x3⟩ := box4 X.out.ga
          obtain ⟨y0, y1, y2, y3⟩ := box4 X.out.gb
          have C3 := Lib.hid (pdif_any X.out.ta X.out.tb OX.out OY.out RR.out)
          go_upto_region 18 with fail
          rw [← HW8.out]
          go_wp2_with fail
          refine C3.out.mono ?_
          rintro e w9 ⟨⟨PA, pc, rfl, _⟩, h9⟩
          have X9 := Lib.hid (X.out.below h9)
          clear h9 x0 x1 x2 x3 y0 y1 y2 y3 C3
          obtain ⟨x0, x1, x2, x3⟩ := box4 X9.out.ga
          obtain ⟨y0, y1, y2, y3⟩ := box4 X9.out.gb
          have C4 := Lib.hid (rdif_any X9.out.ta X9.out.tb OX.out OY.out RR.out)
          go_wp2_with fail
          refine C4.out.mono ?_
          rintro e wA ⟨⟨QA, qc, rfl, _⟩, hA⟩
          have XA := Lib.hid (X9.out.below hA)
          clear hA x0 x1 x2 x3 y0 y1 y2 y3 C4
          obtain ⟨x0, x1, x2, x3⟩ := box4 XA.out.ga
          obtain ⟨y0, y1, y2, y3⟩ := box4 XA.out.gb
          have C5 := Lib.hid (cmp_any x y OX.out.thin OY.out.thin _ _ wA _ _ XA.out.ta XA.out.tb)
          obtain ⟨z', hz'⟩ : ∃ z, difN r' = z := ⟨_, rfl⟩
          have HZ' := Lib.hid hz'
          rw [hz'] at DS
          rw [HZ'.out]
          obtain ⟨P, hP⟩ : ∃ P, eqT x y = P := ⟨_, rfl⟩
          rw [hP] at DS C5
          have hzz' : (z' == z') = true := by simp
          clear hz' hP
          cases h4 : (z' == -4)
          · have hne : z' ≠ -4 := by simpa using h4
            have DS2 := Lib.hid (DS.out.resolve_left hne)
            clear hne
            go_wp2_with fail
            refine C5.out.mono ?_
            rintro e wB ⟨⟨c9, rfl, hc9, _⟩, hB⟩
            have XB := Lib.hid (XA.out.below hB)
            have EQ : ((z' == -1) == (c9 == 0)) = true := by
              by_cases hPP : P
              · have e1 : z' = -1 := DS2.out.mpr hPP
                have e2 : c9 = 0 := hc9.mpr hPP
                rw [e1, e2]; rfl
              · have e1 : (z' == -1) = false := beq_eq_false_iff_ne.mpr fun h => hPP (DS2.out.mp h)
                have e2 : (c9 == 0) = false := beq_eq_false_iff_ne.mpr fun h => hPP (hc9.mp h)
                rw [e1, e2]; rfl
            clear hB hc9
            go_wp2_with fail
            go_ret
            exact ⟨rfl, XB.out.low⟩
          · go_wp2_with fail
            go_ret
            exact ⟨rfl, XA.out.low⟩
        · have hvi' : (i : Int) ≤ (v : Int) := by omega
          have hi4 : ¬ (i : Int) < 400 := by omega
          clear htx hc
          go_wp2_with fail
          go_ret
          exact ⟨rfl, F4.out.low.trans (HB.out.mono F4.out.low.size)⟩
end Go.Proofs.Ytjjkigphfijnbaa
