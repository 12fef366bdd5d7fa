/- The walk through the law CodeDecodes. -/
import Derived.Test.YtlgeepjlnjlgdaaDoorEX
import Derived.Test.YtlgeepjlnjlgdaaDoorEW
import Derived.Test.YtlgeepjlnjlgdaaDoorEb
import Derived.Test.YtlgeepjlnjlgdaaDoorEY
import Derived.Test.YtlgeepjlnjlgdaaDoorEZ
import Derived.Test.YtlgeepjlnjlgdaaDoorEa
namespace Go.Proofs.YtlgeepjlnjlgdaaDoor
open Go.RowKit

/-- What 'heavy' says. -/
def HeavyD (l : List Ins) (b : Bool) : Prop := b = false → l.length ≤ 2048 ∧ ∀ x ∈ l, x.s.size ≤ 2048
def minH (n : Int) : Int := min n 1048576
def HeavyDP (l : List Ins) (w : World) (e : Ending) (w' : World) : Prop := (∃ b : Bool, e = .returned (.bool b) ∧ Hid (HeavyD l b)) ∧ Below w.heap.size w w'
theorem heavyd_d {l : List Ins} {w w' : World} (n : Int) (h : HeavyD l (decide (2048 < n))) (hb : Below w.heap.size w w') : HeavyDP l w (.returned (.bool (decide (2048 < n)))) w' := ⟨⟨_, rfl, Lib.hid h⟩, hb⟩
theorem heavyd_t {l : List Ins} {w w' : World} (hb : Below w.heap.size w w') : HeavyDP l w (.returned (.bool true)) w' := ⟨⟨_, rfl, Lib.hid fun h => by cases h⟩, hb⟩
set_option maxRecDepth 100000 in
set_option maxHeartbeats 4000000 in
theorem heavyd_any {l : List Ins} (w : World) {va : Value} {B : Nat} (ha : GRw w B va l) (hfew : (l.length : Int) ≤ 9223372036854775807) :
    Calls Tryd.prog 13 #[va] w fun e w' => HeavyDP l w e w' := by
  have OA := Lib.hid ha
  obtain ⟨A, c, rfl, _, _, _, _⟩ := GRw.open4 ha
  clear ha
  go_enter Tryd.func13, Tryd.ntmps13
  go_wp2_with fail
  go_loopw [3, 4] (fun nv iv wr => ∃ (n : Int) (i : Nat), nv = .int .i64 n ∧ iv = .int .i64 (i : Int) ∧ i ≤ l.length ∧ n ≤ 9223372036854775807 ∧ (0 < i → n ≤ 1050624) ∧ Hid ((l.length : Int) ≤ n ∧ ∀ x ∈ l.take i, minH x.s.size ≤ n) ∧ Below w.heap.size w wr) (fun _ iv _ => l.length - (intOf iv).toNat)
  case atStart => exact ⟨l.length, 0, rfl, rfl, Nat.zero_le _, by omega, fun h => by omega, Lib.hid ⟨Int.le_refl _, fun x hx => by simp at hx⟩, Below.refl _ _⟩
  case round =>
    obtain ⟨n, i, rfl, rfl, hi, hn1, hn2, hn3, hbw⟩ := hrel
    have HN := Lib.hid hn3.out
    have BW := Lib.hid hbw
    have OA' := Lib.hid (OA.out.below hbw)
    have H2 := Lib.hid hn2
    have hn0 : 0 ≤ n := by have := HN.out.1; omega
    clear hn3 hbw hn2
    by_cases hil : i < l.length
    · have hil' : (i : Int) < (l.length : Int) := by omega
      by_cases hle : n ≤ 2048
      · obtain ⟨g, og, rfl, hg, hcell⟩ := grow OA'.out rfl hil
        obtain ⟨x, hx⟩ : ∃ x, l[i]'hil = x := ⟨_, rfl⟩
        rw [hx] at hcell
        have h2 : wr.cell? ⟨g, og + i * 3 + 2, none⟩ = some (.string x.s) := hcell 2 (by omega)
        have HX := Lib.hid (show l.take (i + 1) = l.take i ++ [x] by rw [List.take_succ_eq_append_getElem hil, hx])
        obtain ⟨xo, xa, xs⟩ := x
        clear hcell hx
        go_wp2_with fail
        obtain ⟨v, hv⟩ : ∃ v : Int, v = min (xs.size : Int) 1048576 := ⟨_, rfl⟩
        have HV := Lib.hid (show v = minH xs.size from hv)
        have hv0 : 0 ≤ v ∧ v ≤ 1048576 := by rw [hv]; omega
        rw [← hv]
        clear hv
        exact ⟨⟨n + v, i + 1, rfl, by go_num, by omega, by omega, fun _ => by omega, Lib.hid ⟨by have := HN.out.1; omega, fun y hy => by
          rw [HX.out, List.mem_append, List.mem_singleton] at hy
          rcases hy with hy | rfl
          · have := HN.out.2 y hy; omega
          · rw [← HV.out]; omega⟩, BW.out⟩, by simp only [intOf]; omega⟩
      · have P := Lib.hid (show HeavyD l (decide (2048 < n)) from fun h => by simp at h; omega)
        go_wp2_with fail
        all_goals (go_ret; first | exact heavyd_d n P.out BW.out | exact heavyd_t BW.out)
    · have P := Lib.hid (show HeavyD l (decide (2048 < n)) from fun h => by
        have hn : n ≤ 2048 := by simpa using h
        have h1 := HN.out
        rw [List.take_of_length_le (by omega)] at h1
        refine ⟨by omega, fun x hx => ?_⟩
        have := h1.2 x hx
        unfold minH at this
        omega)
      go_wp2_with fail
      all_goals (go_ret; first | exact heavyd_d n P.out BW.out | exact heavyd_t BW.out)
theorem dec_ok {l : List Ins} {h : T} {gs : List T} (hl : l.length ≤ 2048) (h1 : h.ok) (h2 : ∀ g ∈ gs, g.ok) (he : encN h gs = l) : (nodesL gs ≤ 6000 ∧ gs.length ≤ 3000) ∧ (wholeT h gs).thin := by
  have h3 : (encN h gs).length = 2 + h.nodes + gs.length + nodesL gs := enc_len h1.1.kinds fun g hg => (h2 g hg).1.kinds
  rw [he] at h3
  exact ⟨⟨by omega, by omega⟩, (whole_ok2 h1 h2 (by omega)).thin⟩
set_option maxRecDepth 100000 in
set_option maxHeartbeats 8000000 in
theorem codedecodes_any {l : List Ins} (w : World) {va : Value} {B : Nat} (ha : GRw w B va l) (hfew : (l.length : Int) ≤ 9223372036854775807) (hnum : ∀ x ∈ l, I64 x.a) (htab : TabX w) :
    Calls Tryd.prog 4 #[va] w fun e w' => e = .returned (.bool true) ∧ Below w.heap.size w w' := by
  have TB0 := Lib.hid htab
  have OA := Lib.hid ha
  have HNM := Lib.hid hnum
  have CH := Lib.hid (heavyd_any w ha hfew)
  obtain ⟨A, c, rfl, _, _, _, _⟩ := GRw.open4 ha
  clear ha htab hnum
  go_enter Tryd.func4, Tryd.ntmps4
  go_wp2_with fail
  refine CH.out.mono ?_
  rintro e w1 ⟨⟨b, rfl, hb⟩, hb1⟩
  have HB := Lib.hid hb.out
  have B1 := Lib.hid hb1
  have O1 := Lib.hid (OA.out.below hb1)
  clear hb hb1 CH
  cases b with
  | true =>
    go_wp2_with fail
    go_ret
    exact ⟨rfl, B1.out⟩
  | false =>
    have HLN := Lib.hid (HB.out rfl)
    have hfew2 : l.length ≤ 2048 := HLN.out.1
    have HIN := Lib.hid (show InsIn l from ⟨by omega, HNM.out, fun x hx => ⟨by have := HLN.out.2 x hx; omega, trivial⟩, fun x hx _ => by have := HNM.out x hx; unfold I64 at this; omega⟩)
    have HI2 := Lib.hid (show ∀ x ∈ l, I64 x.a ∧ x.s.size ≤ 4096 from fun x hx => ⟨HNM.out x hx, by have := HLN.out.2 x hx; omega⟩)
    have CD := Lib.hid (pdecode_any HIN.out O1.out)
    clear hfew HB
    go_wp2_with fail
    refine CD.out.mono ?_
    rintro e w2 ⟨hv2, gv2, er2, rfl, hb2, hq2⟩
    have HQ := Lib.hid hq2.out
    have B2 := Lib.hid (B1.out.trans (hb2.mono B1.out.size))
    have O2 := Lib.hid (O1.out.below hb2)
    clear hb2 hq2 CD
    cases hdec : decR (rdT l 1000) l with
    | none =>
      have HDC := Lib.hid hdec
      have hq := HQ.out
      rw [hdec] at hq
      obtain ⟨rfl, rfl, rfl⟩ := hq
      obtain ⟨W, hW⟩ : ∃ W, W = w2.alloc (Obj.cells #[.int .i64 0, .int .i64 0, .string ⟨#[]⟩, .slice none 0 0] 24) := ⟨_, rfl⟩
      have BW := Lib.hid (show Below w2.heap.size w2 W by rw [hW]; exact Below.alloc (Below.refl _ _) (Nat.le_refl _) _)
      have HXB := Lib.hid (show W.heap[w2.heap.size]? = some (.cells #[.int .i64 0, .int .i64 0, .string ⟨#[]⟩, .slice none 0 0] 24 (0, 0)) by rw [hW]; exact heap_alloc_new _ _)
      have HW := Lib.hid hW
      have CD2 := Lib.hid (rdecode_any HIN.out (O2.out.below BW.out))
      obtain ⟨X, hX⟩ : ∃ X, X = w2.heap.size := ⟨_, rfl⟩
      have HX := Lib.hid hX
      clear hdec hW HQ
      go_wp2_with fail
      rw [← HW.out, ← hX]
      rw [← hX] at HXB
      clear hX
      refine CD2.out.mono ?_
      rintro e w3 ⟨hv3, gv3, er3, rfl, hb3, hq3⟩
      have hq := hq3.out
      rw [HDC.out] at hq
      obtain ⟨rfl, rfl, rfl⟩ := hq
      obtain ⟨Z, hZ⟩ : ∃ Z, Z = w3.alloc (Obj.cells #[.int .i64 0, .int .i64 0, .string ⟨#[]⟩, .slice none 0 0] 24) := ⟨_, rfl⟩
      have HZ := Lib.hid hZ
      have BZ := Lib.hid (show Below W.heap.size W Z by rw [hZ]; exact Below.alloc hb3 hb3.size _)
      have B3 := Lib.hid ((B2.out.trans (BW.out.mono B2.out.size)).trans (BZ.out.mono (by have := B2.out.size; have := BW.out.size; omega)))
      have O3 := Lib.hid ((O2.out.below BW.out).below BZ.out)
      have X3 := Lib.hid ((BZ.out.block _ (heap_lt HXB.out)).trans HXB.out)
      have CT := Lib.hid (ptext_any Z O3.out (by omega) HI2.out (TB0.out.below B3.out))
      clear hb3 hq3 CD2 hZ
      go_wp2_with fail
      rw [← HZ.out]
      refine CT.out.mono ?_
      rintro e w5 ⟨rfl, hb5⟩
      have O5 := Lib.hid (O3.out.below hb5)
      have B5 := Lib.hid (B3.out.trans (hb5.mono B3.out.size))
      have X5 := Lib.hid ((hb5.block _ (heap_lt X3.out)).trans X3.out)
      have CU := Lib.hid (rtext_any w5 O5.out (by omega) HI2.out)
      clear hb5 CT
      go_wp2_with fail
      refine CU.out.mono ?_
      rintro e w6 ⟨rfl, hb6⟩
      have O6 := Lib.hid (O5.out.below hb6)
      have B6 := Lib.hid (B5.out.trans (hb6.mono B5.out.size))
      have X6 := Lib.hid ((hb6.block _ (heap_lt X5.out)).trans X5.out)
      have CS := Lib.hid (pslots_any w6 O6.out (by omega))
      clear hb6 CU
      go_wp2_with fail
      refine CS.out.mono ?_
      rintro e w7 ⟨rfl, hb7⟩
      have O7 := Lib.hid (O6.out.below hb7)
      have B7 := Lib.hid (B6.out.trans (hb7.mono B6.out.size))
      have X7 := Lib.hid ((hb7.block _ (heap_lt X6.out)).trans X6.out)
      have CV := Lib.hid (rslots_any w7 O7.out (by omega))
      clear hb7 CS
      go_wp2_with fail
      refine CV.out.mono ?_
      rintro e w8 ⟨rfl, hb8⟩
      have B8 := Lib.hid (B7.out.trans (hb8.mono B7.out.size))
      have X8 := Lib.hid ((hb8.block _ (heap_lt X7.out)).trans X7.out)
      obtain ⟨y0, y1, y2, y3⟩ := box4t X8.out
      have hx8 := heap_lt X8.out
      clear hb8 CV
      go_wp2_with fail
      go_ret
      exact ⟨rfl, B8.out⟩
    | some p =>
      obtain ⟨th, gs⟩ := p
      have HDC := Lib.hid hdec
      have hq := HQ.out
      rw [hdec] at hq
      obtain ⟨rfl, hu1, hu2, hu3, BU, SU, PU, qu, hSU, hSB, htu, htg⟩ := hq
      obtain ⟨k0, k1, k2, k3, k4, k5, rfl⟩ := htu.agg
      obtain ⟨gA, gc, rfl, hgc, hgA, _⟩ := htg.all
      have DOK := Lib.hid (dec_ok hfew2 hu1 hu2 (dec_is hdec))
      have HNL := Lib.hid DOK.out.1
      have WOK := Lib.hid DOK.out.2
      obtain ⟨X, hX⟩ : ∃ X, X = w2.heap.size := ⟨_, rfl⟩
      obtain ⟨W, hW⟩ : ∃ W, W = w2.alloc (Obj.cells #[.int .i64 k0, .int .i64 k1, .string k2, .slice k3 k4 k5] 24) := ⟨_, rfl⟩
      have HW := Lib.hid hW
      have BW := Lib.hid (show Below w2.heap.size w2 W by rw [hW]; exact Below.alloc (Below.refl _ _) (Nat.le_refl _) _)
      have HXB := Lib.hid (show W.heap[X]? = some (.cells #[.int .i64 k0, .int .i64 k1, .string k2, .slice k3 k4 k5] 24 (0, 0)) by rw [hW, hX]; exact heap_alloc_new _ _)
      have TW := Lib.hid (htu.below BW.out)
      have GW := Lib.hid (show TL W BU SU PU (.slice gA gs.length gc) gs qu from (⟨htg.len, htg.own, fun i h1 h2 => (htg.tp i h1 h2).more fun b hb => hb.imp (fun h => h.elim) id, htg.lo, htg.off, hSB⟩ : TL w2 BU SU PU _ gs qu).below BW.out)
      have HSW := Lib.hid (show ∀ b, SU b → b < W.heap.size from fun b hb => by have := BW.out.size; have := hSU b hb; omega)
      have CD2 := Lib.hid (rdecode_any HIN.out (O2.out.below BW.out))
      clear hdec hW HQ htu htg hu1 hu2 hu3 hSU hSB
      go_wp2_with fail
      rw [← HW.out, ← hX]
      clear hX
      refine CD2.out.mono ?_
      rintro e w3 ⟨hv3, gv3, er3, rfl, hb3, hq3⟩
      have hq := hq3.out
      rw [HDC.out] at hq
      obtain ⟨rfl, hu1, hu2, hu3, BV, SV, PV, qv, hSV, hSBV, htv, htvg⟩ := hq
      obtain ⟨u0, u1, u2, u3, u4, u5, rfl⟩ := htv.agg
      obtain ⟨hA, hc, rfl, hgc2, hgA2, _⟩ := htvg.all
      obtain ⟨Y, hY⟩ : ∃ Y, Y = w3.heap.size := ⟨_, rfl⟩
      obtain ⟨Z, hZ⟩ : ∃ Z, Z = w3.alloc (Obj.cells #[.int .i64 u0, .int .i64 u1, .string u2, .slice u3 u4 u5] 24) := ⟨_, rfl⟩
      have HZ := Lib.hid hZ
      have B3Z := Lib.hid (show Below w3.heap.size w3 Z by rw [hZ]; exact Below.alloc (Below.refl _ _) (Nat.le_refl _) _)
      have BZ := Lib.hid (show Below W.heap.size W Z from hb3.trans (B3Z.out.mono hb3.size))
      have HYB := Lib.hid (show Z.heap[Y]? = some (.cells #[.int .i64 u0, .int .i64 u1, .string u2, .slice u3 u4 u5] 24 (0, 0)) by rw [hZ, hY]; exact heap_alloc_new _ _)
      have HXZ := Lib.hid ((BZ.out.block _ (heap_lt HXB.out)).trans HXB.out)
      have TA0 := Lib.hid (TW.out.below BZ.out)
      have LA0 := Lib.hid (GW.out.below BZ.out)
      have TC0 := Lib.hid (htv.below B3Z.out)
      have LC0 := Lib.hid (show TL Z BV SV PV (.slice hA gs.length hc) gs qv from (⟨htvg.len, htvg.own, fun i h1 h2 => (htvg.tp i h1 h2).more fun b hb => hb.imp (fun h => h.elim) id, htvg.lo, htvg.off, hSBV⟩ : TL w3 BV SV PV _ gs qv).below B3Z.out)
      have HSA0 := Lib.hid (show ∀ b, SU b → b < Z.heap.size from fun b hb => by have := BZ.out.size; have := HSW.out b hb; omega)
      have HSC0 := Lib.hid (show ∀ b, SV b → b < Z.heap.size from fun b hb => by have := B3Z.out.size; have := hSV b hb; omega)
      have B3 := Lib.hid ((B2.out.trans (BW.out.mono B2.out.size)).trans (BZ.out.mono (by have := B2.out.size; have := BW.out.size; omega)))
      have O3 := Lib.hid ((O2.out.below BW.out).below BZ.out)
      have CT := Lib.hid (ptext_any Z O3.out (by omega) HI2.out (TB0.out.below B3.out))
      clear hb3 hq3 CD2 hZ hu1 hu2 hu3 htv htvg hSV hSBV
      go_wp2_with fail
      rw [← HZ.out, ← hY]
      clear hY
      refine CT.out.mono ?_
      rintro e w5 ⟨rfl, hb5⟩
      have O5 := Lib.hid (O3.out.below hb5)
      have B5 := Lib.hid (B3.out.trans (hb5.mono B3.out.size))
      have R5 := Lib.hid hb5
      have CU := Lib.hid (rtext_any w5 O5.out (by omega) HI2.out)
      clear hb5 CT
      go_wp2_with fail
      refine CU.out.mono ?_
      rintro e w6 ⟨rfl, hb6⟩
      have O6 := Lib.hid (O5.out.below hb6)
      have B6 := Lib.hid (B5.out.trans (hb6.mono B5.out.size))
      have R6 := Lib.hid (R5.out.trans (hb6.mono R5.out.size))
      have CS := Lib.hid (pslots_any w6 O6.out (by omega))
      clear hb6 CU R5
      go_wp2_with fail
      refine CS.out.mono ?_
      rintro e w7 ⟨rfl, hb7⟩
      have O7 := Lib.hid (O6.out.below hb7)
      have B7 := Lib.hid (B6.out.trans (hb7.mono B6.out.size))
      have R7 := Lib.hid (R6.out.trans (hb7.mono R6.out.size))
      have CV := Lib.hid (rslots_any w7 O7.out (by omega))
      clear hb7 CS R6
      go_wp2_with fail
      refine CV.out.mono ?_
      rintro e w8 ⟨rfl, hb8⟩
      have B8 := Lib.hid (B7.out.trans (hb8.mono B7.out.size))
      have R8 := Lib.hid (R7.out.trans (hb8.mono R7.out.size))
      clear hb8 CV
      have TA := Lib.hid (TA0.out.below R8.out)
      have LA := Lib.hid (LA0.out.below R8.out)
      have TC := Lib.hid (TC0.out.below R8.out)
      have LC := Lib.hid (LC0.out.below R8.out)
      have HSA := Lib.hid (show ∀ b, SU b → b < w8.heap.size from fun b hb => by have := R8.out.size; have := HSA0.out b hb; omega)
      have HSC := Lib.hid (show ∀ b, SV b → b < w8.heap.size from fun b hb => by have := R8.out.size; have := HSC0.out b hb; omega)
      have HX8 := Lib.hid ((R8.out.block _ (heap_lt HXZ.out)).trans HXZ.out)
      have HY8 := Lib.hid ((R8.out.block _ (heap_lt HYB.out)).trans HYB.out)
      have SS := Lib.hid (show ∀ V, Below w8.heap.size w8 V → V.cell? ⟨X, 0, none⟩ = some (.int .i64 k0) ∧ V.cell? ⟨X, 1, none⟩ = some (.int .i64 k1) ∧ V.cell? ⟨X, 2, none⟩ = some (.string k2) ∧ V.cell? ⟨X, 3, none⟩ = some (.slice k3 k4 k5) ∧ V.cell? ⟨Y, 0, none⟩ = some (.int .i64 u0) ∧ V.cell? ⟨Y, 1, none⟩ = some (.int .i64 u1) ∧ V.cell? ⟨Y, 2, none⟩ = some (.string u2) ∧ V.cell? ⟨Y, 3, none⟩ = some (.slice u3 u4 u5) from fun V hV => by
        obtain ⟨x0, x1, x2, x3⟩ := box4t ((hV.block _ (heap_lt HX8.out)).trans HX8.out)
        obtain ⟨y0, y1, y2, y3⟩ := box4t ((hV.block _ (heap_lt HY8.out)).trans HY8.out)
        exact ⟨x0, x1, x2, x3, y0, y1, y2, y3⟩)
      have R0 := Lib.hid (show Below w8.heap.size w8 w8.drew from (Below.refl _ _).drew)
      clear R7 TA0 LA0 TC0 LC0 HSA0 HSC0 HXZ HYB
      go_upto_region 9 with fail
      refine wp_region_held_drew (S := fun w1 => w1.cell? ⟨X, 0, none⟩ = some (.int .i64 k0) ∧ w1.cell? ⟨X, 1, none⟩ = some (.int .i64 k1) ∧ w1.cell? ⟨X, 2, none⟩ = some (.string k2) ∧ w1.cell? ⟨X, 3, none⟩ = some (.slice k3 k4 k5) ∧ w1.cell? ⟨Y, 0, none⟩ = some (.int .i64 u0) ∧ w1.cell? ⟨Y, 1, none⟩ = some (.int .i64 u1) ∧ w1.cell? ⟨Y, 2, none⟩ = some (.string u2) ∧ w1.cell? ⟨Y, 3, none⟩ = some (.slice u3 u4 u5)) (by kernel_rfl) ?Srb (fun hH0 => ?Brb)
      case Srb => (exact SS.out _ R0.out)
      refine wpAnyH_take (i := 0) (oi := { dst := some 50, op := Go.Op.load 24 (Go.Operand.tmp 3), type := 24, pos := "law.go:80", after := #[], guard := none }) (v := ?vrb0) rfl (by kernel_rfl) (by kernel_rfl) (by kernel_rfl) (fun _ _ _ h => h) (Or.inl ⟨by rfl, ?hyrb0⟩) (by assumption) ?restrb0
      case hyrb0 => (intro w hSw; (try dsimp only at hSw); go_simp; try with_reducible rfl)
      try simp only [Act.put, List.setIfInBounds_toArray, List.set_cons_zero, List.set_cons_succ]
      refine wpAnyH_take (i := 1) (oi := { dst := some 51, op := Go.Op.move (Go.Operand.tmp 4), type := 22, pos := "law.go:80", after := #[], guard := none }) (v := ?vrb1) rfl (by kernel_rfl) (by kernel_rfl) (by kernel_rfl) (fun _ _ _ h => h) (Or.inl ⟨by rfl, ?hyrb1⟩) (by assumption) ?restrb1
      case hyrb1 => (intro w hSw; (try dsimp only at hSw); go_simp; try with_reducible rfl)
      try simp only [Act.put, List.setIfInBounds_toArray, List.set_cons_zero, List.set_cons_succ]
      refine wpAnyH_take (i := 3) (oi := { dst := some 53, op := Go.Op.load 24 (Go.Operand.tmp 6), type := 24, pos := "law.go:80", after := #[], guard := none }) (v := ?vrb3) rfl (by kernel_rfl) (by kernel_rfl) (by kernel_rfl) (fun _ _ _ h => h) (Or.inl ⟨by rfl, ?hyrb3⟩) (by assumption) ?restrb3
      case hyrb3 => (intro w hSw; (try dsimp only at hSw); go_simp; try with_reducible rfl)
      try simp only [Act.put, List.setIfInBounds_toArray, List.set_cons_zero, List.set_cons_succ]
      refine wpAnyH_take (i := 4) (oi := { dst := some 54, op := Go.Op.move (Go.Operand.tmp 7), type := 22, pos := "law.go:80", after := #[], guard := none }) (v := ?vrb4) rfl (by kernel_rfl) (by kernel_rfl) (by kernel_rfl) (fun _ _ _ h => h) (Or.inl ⟨by rfl, ?hyrb4⟩) (by assumption) ?restrb4
      case hyrb4 => (intro w hSw; (try dsimp only at hSw); go_simp; try with_reducible rfl)
      try simp only [Act.put, List.setIfInBounds_toArray, List.set_cons_zero, List.set_cons_succ]
      refine wpAnyH_ready (rs := [2]) (by kernel_rfl) (by simp) ?_
      refine AllReadyH.cons (o := { dst := some 52, op := Go.Op.call { callee := Go.Callee.value (Go.Operand.func 17), args := #[Go.Operand.tmp 50, Go.Operand.tmp 51], argTypes := #[24, 22] }, type := 24, pos := "law.go:80", after := #[{ on := 0, ground := Go.Ground.data }, { on := 1, ground := Go.Ground.data }], guard := none }) rfl (fun K hK => ?_) ?nilrb2
      case nilrb2 => exact AllReadyH.nil
      go_simp
      (refine (whole_any (TA.out.below R0.out) (LA.out.below R0.out) (fun b hb => by have := HSA.out b hb; have := R0.out.size; omega) HNL.out.2).mono ?_)
      rintro e w5 ⟨⟨A5, c5, rfl, ht5⟩, hb5⟩
      have R5 := Lib.hid (R0.out.trans (hb5.mono R0.out.size))
      have T5 := Lib.hid ht5
      clear ht5 hb5
      go_wp2_with fail
      refine hK.out _ _ ?Srb2 (fun hH1 => ?restrb2)
      case Srb2 => (exact SS.out _ R5.out)
      clear hK K
      try simp only [Act.put, List.setIfInBounds_toArray, List.set_cons_zero, List.set_cons_succ]
      refine wpAnyH_ready (rs := [5]) (by kernel_rfl) (by simp) ?_
      refine AllReadyH.cons (o := { dst := some 55, op := Go.Op.call { callee := Go.Callee.value (Go.Operand.func 17), args := #[Go.Operand.tmp 53, Go.Operand.tmp 54], argTypes := #[24, 22] }, type := 24, pos := "law.go:80", after := #[{ on := 3, ground := Go.Ground.data }, { on := 4, ground := Go.Ground.data }, { on := 2, ground := Go.Ground.chain }], guard := none }) rfl (fun K hK => ?_) ?nilrb5
      case nilrb5 => exact AllReadyH.nil
      go_simp
      (refine (whole_any (TC.out.below R5.out) (LC.out.below R5.out) (fun b hb => by have := HSC.out b hb; have := R5.out.size; omega) HNL.out.2).mono ?_)
      rintro e w6 ⟨⟨A6, c6, rfl, ht6⟩, hb6⟩
      have R6 := Lib.hid (R5.out.trans (hb6.mono R5.out.size))
      have T6 := Lib.hid ht6
      have T56 := Lib.hid (T5.out.below hb6)
      clear ht6 hb6
      go_wp2_with fail
      refine hK.out _ _ ?Srb5 (fun hH2 => ?restrb5)
      case Srb5 => (exact SS.out _ R6.out)
      clear hK K
      try simp only [Act.put, List.setIfInBounds_toArray, List.set_cons_zero, List.set_cons_succ]
      refine wpAnyH_ready (rs := [6]) (by kernel_rfl) (by simp) ?_
      refine AllReadyH.cons (o := { dst := some 56, op := Go.Op.call { callee := Go.Callee.value (Go.Operand.func 16), args := #[Go.Operand.tmp 52, Go.Operand.tmp 55], argTypes := #[24, 24] }, type := 3, pos := "law.go:80", after := #[{ on := 2, ground := Go.Ground.data }, { on := 5, ground := Go.Ground.data }, { on := 5, ground := Go.Ground.chain }], guard := none }) rfl (fun K hK => ?_) ?nilrb6
      case nilrb6 => exact AllReadyH.nil
      go_simp
      (refine (cmp_any _ _ WOK.out WOK.out _ _ _ _ _ T56.out T6.out).mono ?_)
      rintro e w7 ⟨⟨cz, rfl, hcz, _⟩, hb7⟩
      obtain rfl : cz = 0 := hcz.2 (eqT_refl WOK.out)
      have R7 := Lib.hid (R6.out.trans (hb7.mono R6.out.size))
      clear hcz hb7
      go_wp2_with fail
      refine hK.out _ _ ?Srb6 (fun hH3 => ?restrb6)
      case Srb6 => (exact SS.out _ R7.out)
      clear hK K
      try simp only [Act.put, List.setIfInBounds_toArray, List.set_cons_zero, List.set_cons_succ]
      refine wpAnyH_take (i := 7) (oi := { dst := some 57, op := Go.Op.binOp Go.BinOp.eql 3 (Go.Operand.tmp 56) (Go.Operand.const (Go.Value.int Go.IntKind.i64 0)) 3, type := 4, pos := "law.go:80", after := #[{ on := 6, ground := Go.Ground.data }], guard := none }) (v := ?vrb7) rfl (by kernel_rfl) (by kernel_rfl) (by kernel_rfl) (fun _ _ _ h => h) (Or.inl ⟨by rfl, ?hyrb7⟩) (by assumption) ?restrb7
      case hyrb7 => (intro w hSw; (try dsimp only at hSw); go_simp; try with_reducible rfl)
      try simp only [Act.put, List.setIfInBounds_toArray, List.set_cons_zero, List.set_cons_succ]
      refine wpAnyH_take (i := 8) (oi := { dst := some 2, op := Go.Op.assign (Go.Operand.tmp 57), type := 4, pos := "law.go:80", after := #[{ on := 7, ground := Go.Ground.data }, { on := 6, ground := Go.Ground.chain }, { on := 0, ground := Go.Ground.phase }, { on := 1, ground := Go.Ground.phase }, { on := 2, ground := Go.Ground.phase }, { on := 3, ground := Go.Ground.phase }, { on := 4, ground := Go.Ground.phase }, { on := 5, ground := Go.Ground.phase }, { on := 6, ground := Go.Ground.phase }, { on := 7, ground := Go.Ground.phase }], guard := none }) (v := ?vrb8) rfl (by kernel_rfl) (by kernel_rfl) (by kernel_rfl) (fun _ _ _ h => h) (Or.inl ⟨by rfl, ?hyrb8⟩) (by assumption) ?restrb8
      case hyrb8 => (intro w hSw; (try dsimp only at hSw); go_simp; try with_reducible rfl)
      try simp only [Act.put, List.setIfInBounds_toArray, List.set_cons_zero, List.set_cons_succ]
      refine wpAnyH_done (by kernel_rfl) ?_ _
      go_wp2_with fail
      go_ret
      exact ⟨rfl, B8.out.trans (R7.out.mono B8.out.size)⟩
end Go.Proofs.YtlgeepjlnjlgdaaDoor
