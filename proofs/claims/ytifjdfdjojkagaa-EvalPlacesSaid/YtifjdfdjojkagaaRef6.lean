/- The walk through coneyref01.fit. -/
import Derived.Test.YtifjdfdjojkagaaRef5
import Derived.Test.YtifjdfdjojkagaaFit2
namespace Go.Proofs.Ytifjdfdjojkagaa
open Go.RowKit Dg

theorem val_drop_le (l : List Nat) (i : Nat) : val (l.drop i) ≤ val l := by
  induction i with
  | zero => simp
  | succ i ih => have := val_drop l i; omega

set_option maxHeartbeats 2000000 in
theorem fit_any (p : Bool) (A : Option Addr) (n c B M : Nat) (w : World) (hn : n ≤ 1000000) (hB : B ≤ w.heap.size) (ha : Num w B A n c M) :
    Calls Try.prog 47 #[.agg #[.bool p, .slice A n c]] w
      fun e w' => e = .returned (.tuple #[.int .i64 (fitV (sg p M)), .int .i64 (fitE (sg p M))]) ∧ Below w.heap.size w w' := by
  have hbw : Below w.heap.size w (w.alloc (Obj.cells #[.bool p, .slice A n c] 69)) := (Below.refl _ _).alloc (Nat.le_refl _) _
  have hA := ha.below (hbw.mono hB)
  have HW := Lib.hid hbw
  clear hbw
  go_enter Try.func47, Try.ntmps47
  go_wp2_with fail
  refine (of_any (-9223372036854775808) _ (by omega) (by omega)).mono ?_
  rintro e w1 ⟨⟨L, k, cl, hk, rfl, hL⟩, hb1⟩
  have hx0 : w1.heap[w.heap.size]? = some (.cells #[.bool p, .slice A n c] 69 (0, 0)) := (hb1.block _ (by simp)).trans (heap_at _ _ rfl)
  obtain ⟨c0, c1, -, -⟩ := box2 hx0
  have hz0 := World.lt_of_heap hx0
  have hbb : Below w.heap.size w (w1.alloc (Obj.cells #[.bool true, .slice L k cl] 69)) := (HW.out.trans (hb1.mono (by simp))).alloc (by omega) _
  have hA2 := ha.below (hbb.mono hB)
  have hL2 := hL.below ((Below.refl _ _).alloc (Nat.le_refl _) (Obj.cells #[.bool true, .slice L k cl] 69))
  have hy1 : (w1.alloc (Obj.cells #[.bool true, .slice L k cl] 69)).heap[w1.heap.size]? = some (.cells #[.bool true, .slice L k cl] 69 (0, 0)) := heap_at _ _ rfl
  have hy0 : (w1.alloc (Obj.cells #[.bool true, .slice L k cl] 69)).heap[w.heap.size]? = some (.cells #[.bool p, .slice A n c] 69 (0, 0)) := (Below.heap_alloc _ _ _ hz0).trans hx0
  have HY1 := Lib.hid hy1
  have HY0 := Lib.hid hy0
  have HBB := Lib.hid hbb
  clear hy1 hy0 hbb hb1 hA hL hx0
  by_cases h0 : n = 0
  · have hM := ha.zero.1 h0
    subst h0
    subst hM
    go_wp2
    go_ret2
    exact ⟨ret2 (vint (by rw [show ((0 : Nat) : Int) = 0 from rfl, sg_zero]; rfl)) (vint (by rw [show ((0 : Nat) : Int) = 0 from rfl, sg_zero]; rfl)), HBB.out⟩
  have hn1 : ((n : Int) == 0) = false := by simp; omega
  go_wp2_with fail
  refine (order_any A L n c k cl (max B w1.heap.size) M _ _ hn (by omega) (by simp; omega) (hA2.more (by omega)) (hL2.more (by omega))).mono ?_
  rintro e w2 ⟨rfl, hb2⟩
  have hz1 : w1.heap.size < (w1.alloc (Obj.cells #[.bool true, .slice L k cl] 69)).heap.size := by simp
  obtain ⟨c0, c1, -, -⟩ := box2 ((hb2.block _ (by omega)).trans HY0.out)
  have hAA := hA2.below (hb2.mono (by simp; omega))
  have HB2 := Lib.hid (HBB.out.trans (hb2.mono (by simp; omega)))
  clear hb2 hA2 hL2
  have hmin : (-9223372036854775808 : Int).natAbs = 9223372036854775808 := by decide
  rw [hmin]
  rcases Nat.lt_trichotomy M 9223372036854775808 with hM | hM | hM
  · rw [cmpN_lt hM]
    obtain ⟨l, hd, hnl, hv⟩ := hAA
    have hca := Lib.hid hd.cells
    have hlen := Lib.hid hd.len
    have hlt := Dig.lt hd
    have HLT := Lib.hid hlt
    have HV := Lib.hid hv
    have HNE := Lib.hid h0
    clear hlt hv hd h0
    go_wp2_with fail
    go_loop [6, 7] (fun s i => ∃ (j : Nat) (q : Int), j ≤ n ∧ q = (j : Int) - 1 ∧ i = .int .i64 q ∧ s = .int .i64 ((val (l.drop j) : Nat) : Int)) (fun _ i => (intOf i + 1).toNat)
    case atStart => exact ⟨n, _, Nat.le_refl _, rfl, rfl, by rw [List.drop_eq_nil_of_le (by rw [hlen.out]; omega)]; rfl⟩
    case round =>
      obtain ⟨j, q, hj, hq, rfl, rfl⟩ := hrel
      have hvb := val_drop_le l j
      have HV2 := HV
      rcases j with _ | j
      · obtain rfl : q = -1 := by omega
        clear hq
        have hv0 : ((val (l.drop 0) : Nat) : Int) = (M : Int) := by rw [List.drop_zero, HV.out]
        rw [hv0]
        have hMb : (M : Int) ≤ 9223372036854775807 := by omega
        clear hv0 hvb HV2
        cases p
        · go_wp2
          go_ret2
          exact ⟨ret2 (vint (by rw [sgF, fitV_in (by omega) (by omega)])) (vint (by rw [sgF, fitE_in (by omega) (by omega)])), HB2.out⟩
        · go_wp2
          go_ret2
          exact ⟨ret2 (vint (by rw [sgT, fitV_in (by omega) (by omega)])) (vint (by rw [sgT, fitE_in (by omega) (by omega)])), HB2.out⟩
      · obtain rfl : q = (j : Int) := by omega
        clear hq
        obtain ⟨b, off, rfl, hbB, hc⟩ := hca.out (by omega)
        have hcj := hc j (by omega)
        have hdj := HLT.out j
        have hs := val_drop l j
        have hvb2 := val_drop_le l j
        rw [HV.out] at hvb2
        obtain ⟨d, hd⟩ : ∃ d, d = l.getD j 0 := ⟨_, rfl⟩
        obtain ⟨S, hS⟩ : ∃ S, S = val (l.drop (j + 1)) := ⟨_, rfl⟩
        rw [← hd] at hcj hdj hs
        rw [← hS] at hs ⊢
        have hb3 : d + 32768 * S ≤ 9223372036854775807 := by omega
        have HSS := Lib.hid hs
        clear hc hs hd hS hvb hvb2 HV2
        go_wp2
        go_round
        case rel => exact ⟨j, _, by omega, rfl, rfl, vint (by rw [HSS.out]; omega)⟩
        case measure => simp [intOf]
  · rw [hM, cmpN_eq]
    cases p
    · go_wp2
      go_ret2
      exact ⟨ret2 (vint (by rw [sgF, fitV_out (by omega)])) (vint (by rw [sgF, fitE_out (by omega)])), HB2.out⟩
    · go_wp2
      go_ret2
      exact ⟨ret2 (vint (by rw [sgT, fitV_in (by omega) (by omega), hM]; rfl)) (vint (by rw [sgT, fitE_in (by omega) (by omega)])), HB2.out⟩
  · rw [cmpN_gt hM]
    go_wp2
    go_ret2
    exact ⟨ret2 (vint (by cases p <;> simp only [sgT, sgF] <;> exact (fitV_out (by omega)).symm)) (vint (by cases p <;> simp only [sgT, sgF] <;> exact (fitE_out (by omega)).symm)), HB2.out⟩
end Go.Proofs.Ytifjdfdjojkagaa
