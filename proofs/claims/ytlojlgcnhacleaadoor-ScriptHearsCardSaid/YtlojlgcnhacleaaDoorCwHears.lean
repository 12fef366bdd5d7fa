/- The walk of ScriptHears. -/
import Derived.Test.YtlojlgcnhacleaaDoorHpg
namespace Go.Proofs.YtlojlgcnhacleaaDoor
open Go.RowKit Go.Shelf
set_option maxRecDepth 100000 in
set_option maxHeartbeats 8000000 in
theorem scripthears_any {A : Option Addr} {m c : Nat} {z : Nat → Int × ByteArray} (w : World) (h : Outs w A m c z) (hK : KindsX w) (mx : Int) (hm : w.cell? ⟨1, 0, none⟩ = some (.int .i64 mx)) :
    Calls Tryd.prog 3 #[.slice A m c] w fun e w' => e = .returned (.bool true) ∧ Below w.heap.size w w' := by
  have H := Lib.hid h
  have CHv := Lib.hid (heavy_any h)
  have hgl : 0 < w.heap.size := cell_lt (hK 0 (by decide))
  have hmw : 1 < w.heap.size := cell_lt hm
  have HK := Lib.hid hK
  have HM := Lib.hid hm
  have hfew := h.few
  have hmc := h.cap
  clear h hK hm
  obtain ⟨i0, hi, hz0, hz1, hz2⟩ := elO.hi
  go_enter Tryd.func3, Tryd.ntmps3
  go_wp2_with fail
  refine CHv.out.mono ?_
  rintro e w1 ⟨⟨b, rfl, hb⟩, hb1⟩
  cases b with
  | true =>
    go_wp2_with fail
    go_ret
    exact ⟨rfl, hb1⟩
  | false =>
    have hsum := hb rfl
    have B1 := Lib.hid hb1
    clear hb hb1 CHv
    have O0 : Hid ((w1.alloc (.cells #[] 25)).ownsRow w.heap.size 25 2 (.slice (some ⟨w1.heap.size, 0, none⟩) 0 0) 0 (outV (ownL z 0))) := ownsRow_more (ownsRow_empty _ _ _ _ (heap_alloc_last w1 _)) B1.out.size
    go_wp2_with fail
    go_loopw [3, 4] (fun vv iv wr => ∃ i : Nat, iv = .int .i64 (i : Int) ∧ i ≤ m ∧ Hid (wr.ownsRow w.heap.size 25 2 vv i (outV (ownL z i))) ∧ Hid (Below w.heap.size w wr)) (fun _ iv _ => m - (intOf iv).toNat)
    case atStart => exact ⟨0, rfl, Nat.zero_le _, O0, Lib.hid (B1.out.alloc B1.out.size _)⟩
    case round =>
      obtain ⟨i, rfl, him, HO, HB⟩ := hrel
      rcases Nat.lt_or_ge i m with hlt | hge
      · obtain ⟨b, off, rfl, hbl, hcz⟩ := H.out.at_ (by omega)
        obtain ⟨z1, z2⟩ := hcz i hlt
        have c1 := (HB.out.cell (p := ⟨b, off + i * 2, none⟩) hbl).trans z1
        have c2 := (HB.out.cell (p := ⟨b, off + i * 2 + 1, none⟩) hbl).trans z2
        have hil : (i : Int) < (m : Int) := by omega
        have hrg := H.out.rng i hlt
        have hkr := kOf_range (z i).1
        have HSn := Lib.hid (show ownL z (i + 1) = ownL z i ++ [ownO (z i)] from rfl)
        have HSz := Lib.hid (sumZ_le z m i hlt)
        unfold ownO at HSn
        generalize z i = zi at *
        obtain ⟨x, t⟩ := zi
        simp only at hrg hkr c1 c2 HSn HSz
        generalize kOf x = K at *
        obtain ⟨y, hy⟩ : ∃ y, x.tmod 8 = y := ⟨_, rfl⟩
        have t1 := Int.tmod_lt_of_pos x (show (0 : Int) < 8 by decide)
        have t2 : -8 < x.tmod 8 := Int.lt_tmod_of_pos x (by decide)
        rw [hy] at t1 t2 hkr
        obtain ⟨hk1, hk8, hyk⟩ := hkr
        have hws := HB.out.size
        have c2' : ∀ o, (wr.alloc o).cell? ⟨b, off + i * 2 + 1, none⟩ = some (.string t) := fun o => ((belA (Below.refl wr.heap.size wr) o).cell (p := ⟨b, off + i * 2 + 1, none⟩) (by show b < wr.heap.size; omega)).trans c2
        clear hcz z1 z2 c2
        obtain ⟨A3, c3, rfl, -⟩ := own_open HO.out
        have STEP := Lib.hid (fun (t' : ByteArray) (v5 : Value) (w5 : World) (e : ba (if hasT K then t.data.toList else []) = t') (hown5 : w5.ownsRow w.heap.size 25 2 v5 (i + 1) (outV (ownL z i) ++ [.int .i64 (K : Int), .string t'])) => show w5.ownsRow w.heap.size 25 2 v5 (i + 1) (outV (ownL z (i + 1))) by
          rw [HSn.out]
          have : outV (ownL z i ++ [(K, if hasT K then t.data.toList else [])]) = outV (ownL z i) ++ [.int .i64 (K : Int), .string t'] := by
            unfold outV
            rw [List.flatMap_append, ← e]
            rfl
          rw [this]
          exact hown5)
        clear HSn
        have him2 : i ≤ 4096 := by omega
        by_cases k1 : K = 1
        · have hy8 : y % 8 = 0 := by omega
          subst k1
          clear hyk
          have hnw := two_news (w := ((wr.alloc (Obj.cells #[.int .i64 1, .string t] 25)).alloc (Obj.cells #[.int .i64 1, .string t] 25))) (g := wr.heap.size + 1) (a := .int .i64 1) (b := .string t) (t := 25) (heap_at _ _ (by simp))
          go_wp2_with (at_builtin; go_must (refine wpList_append_own _ rfl _ _ 22 rfl w.heap.size 25 i0 (.agg #[.int .i64 0, .string ⟨#[]⟩]) 2 24 Tryd.underlying22 hi hz0 hz1 hz2 rfl (by decide) _ _ _ rfl ((HO.out.alloc _).alloc _) ⟨wr.heap.size + 1, 0, none⟩ 1 1 [.int .i64 1, .string t] rfl rfl hnw (by intro u hu; simp at hu; rcases hu with rfl | rfl <;> rfl) (by unfold maxLen; omega) (by omega) (by simp; omega) ?_; intro v5 w5 hown5 hgr5 _; clear hnw; have OW5 := Lib.hid (STEP.out t _ _ rfl hown5); have BL5 := Lib.hid (((HB.out.alloc hws _).alloc (by simp; omega) _).grown hgr5 (by simp; omega) (ownBlock_ge HO.out)); clear hown5 hgr5))
          go_roundw
          case rel => exact ⟨i + 1, by go_num, by omega, OW5, BL5⟩
          case measure => simp [intOf]; omega
        by_cases k3 : K = 3
        · have hy8 : y % 8 = 2 := by omega
          subst k3
          clear hyk
          have hnw := two_news (w := ((wr.alloc (Obj.cells #[.int .i64 3, .string t] 25)).alloc (Obj.cells #[.int .i64 3, .string t] 25))) (g := wr.heap.size + 1) (a := .int .i64 3) (b := .string t) (t := 25) (heap_at _ _ (by simp))
          go_wp2_with (at_builtin; go_must (refine wpList_append_own _ rfl _ _ 22 rfl w.heap.size 25 i0 (.agg #[.int .i64 0, .string ⟨#[]⟩]) 2 24 Tryd.underlying22 hi hz0 hz1 hz2 rfl (by decide) _ _ _ rfl ((HO.out.alloc _).alloc _) ⟨wr.heap.size + 1, 0, none⟩ 1 1 [.int .i64 3, .string t] rfl rfl hnw (by intro u hu; simp at hu; rcases hu with rfl | rfl <;> rfl) (by unfold maxLen; omega) (by omega) (by simp; omega) ?_; intro v5 w5 hown5 hgr5 _; clear hnw; have OW5 := Lib.hid (STEP.out t _ _ rfl hown5); have BL5 := Lib.hid (((HB.out.alloc hws _).alloc (by simp; omega) _).grown hgr5 (by simp; omega) (ownBlock_ge HO.out)); clear hown5 hgr5))
          go_roundw
          case rel => exact ⟨i + 1, by go_num, by omega, OW5, BL5⟩
          case measure => simp [intOf]; omega
        by_cases k4 : K = 4
        · have hy8 : y % 8 = 3 := by omega
          subst k4
          clear hyk
          have hnw := two_news (w := ((wr.alloc (Obj.cells #[.int .i64 4, .string t] 25)).alloc (Obj.cells #[.int .i64 4, .string t] 25))) (g := wr.heap.size + 1) (a := .int .i64 4) (b := .string t) (t := 25) (heap_at _ _ (by simp))
          go_wp2_with (at_builtin; go_must (refine wpList_append_own _ rfl _ _ 22 rfl w.heap.size 25 i0 (.agg #[.int .i64 0, .string ⟨#[]⟩]) 2 24 Tryd.underlying22 hi hz0 hz1 hz2 rfl (by decide) _ _ _ rfl ((HO.out.alloc _).alloc _) ⟨wr.heap.size + 1, 0, none⟩ 1 1 [.int .i64 4, .string t] rfl rfl hnw (by intro u hu; simp at hu; rcases hu with rfl | rfl <;> rfl) (by unfold maxLen; omega) (by omega) (by simp; omega) ?_; intro v5 w5 hown5 hgr5 _; clear hnw; have OW5 := Lib.hid (STEP.out t _ _ rfl hown5); have BL5 := Lib.hid (((HB.out.alloc hws _).alloc (by simp; omega) _).grown hgr5 (by simp; omega) (ownBlock_ge HO.out)); clear hown5 hgr5))
          go_roundw
          case rel => exact ⟨i + 1, by go_num, by omega, OW5, BL5⟩
          case measure => simp [intOf]; omega
        have e1 : ((K : Int) == 1) = false := by simp; omega
        have e3 : ((K : Int) == 3) = false := by simp; omega
        have e4 : ((K : Int) == 4) = false := by simp; omega
        have hT : hasT K = false := by simp [hasT, k1, k3, k4]
        simp only [hT, Bool.false_eq_true, if_false] at STEP
        clear hT k1 k3 k4
        have hnw := two_news (w := ((wr.alloc (Obj.cells #[.int .i64 (K : Int), .string ⟨#[]⟩] 25)).alloc (Obj.cells #[.int .i64 (K : Int), .string ⟨#[]⟩] 25))) (g := wr.heap.size + 1) (a := .int .i64 (K : Int)) (b := .string ⟨#[]⟩) (t := 25) (heap_at _ _ (by simp))
        go_wp2_with (at_builtin; go_must (refine wpList_append_own _ rfl _ _ 22 rfl w.heap.size 25 i0 (.agg #[.int .i64 0, .string ⟨#[]⟩]) 2 24 Tryd.underlying22 hi hz0 hz1 hz2 rfl (by decide) _ _ _ rfl ((HO.out.alloc _).alloc _) ⟨wr.heap.size + 1, 0, none⟩ 1 1 [.int .i64 (K : Int), .string ⟨#[]⟩] rfl rfl hnw (by intro u hu; simp at hu; rcases hu with rfl | rfl <;> rfl) (by unfold maxLen; omega) (by omega) (by simp; omega) ?_; intro v5 w5 hown5 hgr5 _; clear hnw; have OW5 := Lib.hid (STEP.out ⟨#[]⟩ _ _ rfl hown5); have BL5 := Lib.hid (((HB.out.alloc hws _).alloc (by simp; omega) _).grown hgr5 (by simp; omega) (ownBlock_ge HO.out)); clear hown5 hgr5))
        go_roundw
        case rel => exact ⟨i + 1, by go_num, by omega, OW5, BL5⟩
        case measure => simp [intOf]; omega
      · obtain rfl : i = m := by omega
        obtain ⟨A3, c3, rfl, -⟩ := own_open HO.out
        obtain ⟨os, hos⟩ : ∃ os, ownL z i = os := ⟨_, rfl⟩
        have hlen : os.length = i := by rw [← hos]; exact ownL_len z i
        have hmem : ∀ o ∈ os, ∃ j, j < i ∧ o = ownO (z j) := fun o ho => ownL_mem z i o (by rw [hos]; exact ho)
        have hR := OutR.of_own (os := os) (by rw [← hos]; exact HO.out) hlen.symm
        have hk1 : ∀ o ∈ os, 1 ≤ o.1 ∧ o.1 ≤ 8 := fun o ho => by
          obtain ⟨j, _, rfl⟩ := hmem o ho
          have := kOf_range (z j).1
          exact ⟨this.1, this.2.1⟩
        have hlt : ∀ o ∈ os, o.2.length ≤ 100000 := fun o ho => by
          obtain ⟨j, hj, rfl⟩ := hmem o ho
          have h1 := sumZ_le z i j hj
          show (if hasT (kOf (z j).1) = true then (z j).2.data.toList else []).length ≤ _
          split
          · rw [Array.length_toList]
            exact Nat.le_trans h1 (by omega)
          · simp
        have hno : ∀ o ∈ os, hasT o.1 = false → o.2 = [] := fun o ho h => by
          obtain ⟨j, _, rfl⟩ := hmem o ho
          show (if hasT (kOf (z j).1) = true then (z j).2.data.toList else []) = []
          rw [if_neg (by rw [show hasT (kOf (z j).1) = false from h]; decide)]
        have htl := tell_size z i
        rw [hos] at htl
        have hws := HB.out.size
        have hKr := HK.out.below HB.out hgl
        have CT := Lib.hid (tell_any os A3 c3 wr hR hKr hk1 (by omega) (by omega) hlt)
        rw [hlen] at CT
        obtain ⟨tl, htle⟩ : ∃ tl, ba (tellL os) = tl := ⟨_, rfl⟩
        rw [htle] at CT
        have htd : tl.data.toList = tellL os := by rw [← htle]; simp [ba]
        have hts : tl.size ≤ 100000 := by
          have : tl.data.toList.length = tl.size := Array.length_toList
          rw [htd] at this
          omega
        have HR := Lib.hid hR
        have CHr := Lib.hid (fun (W : World) (h : Below wr.heap.size wr W) => hear_any os tl htd W (hKr.below h (by omega)) mx (((HB.out.trans (h.mono hws)).cell (p := ⟨1, 0, none⟩) hmw).trans HM.out) hk1 hno (by omega) (by omega))
        have CRt := Lib.hid (fun (W : World) (h : Below wr.heap.size wr W) => rtell_any os A3 c3 W (hR.below h) hk1 (by omega) (by omega) hlt)
        have CSm := Lib.hid (fun (A' : Option Addr) (c' : Nat) (W : World) (h' : OutR W A' os) (h : Below wr.heap.size wr W) => same_any os A' A3 c' c3 W h' (hR.below h) (by omega))
        rw [hlen] at CHr CRt CSm
        rw [htle] at CRt
        have htt : (tl.toList == tl.toList) = true := beq_self_eq_true _
        clear hos hmem hR hk1 hlt hno htl hKr htle htd
        go_wp2_with fail
        refine CT.out.mono ?_
        rintro e w2 ⟨rfl, hb2⟩
        have B2 := Lib.hid hb2
        clear hb2
        go_wp2_with fail
        refine (CHr.out _ B2.out).mono ?_
        rintro e w3 ⟨A', c', rfl, hO3, hb3⟩
        have B3 := Lib.hid (B2.out.trans (hb3.mono B2.out.size))
        have O3 := Lib.hid hO3
        clear hb3 hO3
        go_wp2_with fail
        refine (CRt.out _ B3.out).mono ?_
        rintro e w4 ⟨rfl, hb4⟩
        have B4 := Lib.hid (B3.out.trans (hb4.mono B3.out.size))
        have O4 := Lib.hid (O3.out.below hb4)
        clear hb4
        go_wp2_with fail
        refine (CSm.out A' c' _ O4.out B4.out).mono ?_
        rintro e w5 ⟨rfl, hb5⟩
        have B5 := Lib.hid (B4.out.trans (hb5.mono B4.out.size))
        clear hb5
        go_wp2_with fail
        go_ret
        exact ⟨rfl, HB.out.trans (B5.out.mono hws)⟩
end Go.Proofs.YtlojlgcnhacleaaDoor
