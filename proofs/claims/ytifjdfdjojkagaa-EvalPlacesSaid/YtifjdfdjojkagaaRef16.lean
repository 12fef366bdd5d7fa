/- The walk through coneyref01.Pow. -/
import Derived.Test.YtifjdfdjojkagaaRef14
import Derived.Deep.DeepCutAuto
import Derived.Deep.CutRange
namespace Go.Proofs.Ytifjdfdjojkagaa
open Go.RowKit Dg

theorem pow_digits (a : Int) (i : Nat) (ha : a.natAbs ≤ 9223372036854775808) : (a ^ i).natAbs < 32768 ^ (5 * i + 1) := by
  have h1 : (a ^ i).natAbs = a.natAbs ^ i := Int.natAbs_pow a i
  have h2 : a.natAbs ^ i ≤ (32768 ^ 5) ^ i := Nat.pow_le_pow_left (Nat.le_trans ha (by decide)) i
  rw [← Nat.pow_mul] at h2
  have h3 : 32768 ^ (5 * i) < 32768 ^ (5 * i + 1) := Nat.pow_lt_pow_right (by omega) (by omega)
  omega
theorem sg_natAbs {s : Bool} {K : Nat} {x : Int} (h : sg s K = x) : K = x.natAbs := by
  cases s
  · rw [sgF] at h; omega
  · rw [sgT] at h; omega

/-- The power as the reference reckons it: as if by 70 at most; by 2 or 3 where that is the same. -/
theorem pow_small {a : Int} {n N : Nat} (ha : a = 0 ∨ a = 1 ∨ a = -1) (h : n ≤ 3 ∧ N = n ∨ 3 < n ∧ N = 2 + n % 2) : a ^ (min N 70) = a ^ n := by
  have hN : min N 70 = N := by omega
  rw [hN]
  rcases h with ⟨_, rfl⟩ | ⟨h3, rfl⟩
  · rfl
  · rcases ha with rfl | rfl | rfl
    · rw [zero_pow_ _ (by omega), zero_pow_ _ (by omega)]
    · rw [one_pow_, one_pow_]
    · rw [m1_pow, m1_pow]; omega
theorem pow_great {a : Int} {n : Nat} (ha : 2 ≤ a.natAbs) : fitV (a ^ (min n 70)) = fitV (a ^ n) ∧ fitE (a ^ (min n 70)) = fitE (a ^ n) := by
  rcases Nat.lt_or_ge n 71 with h | h
  · rw [show min n 70 = n by omega]; exact ⟨rfl, rfl⟩
  · have h1 := pow_far (a := a) (n := min n 70) ha (by omega)
    have h2 := pow_far (a := a) (n := n) ha (by omega)
    rw [outV h1, outV h2, outE h1, outE h2]
    exact ⟨rfl, rfl⟩

structure PowRel (w : World) (g : Nat) (a : Int) (iv : Value) (wr : World) (i : Nat) (s : Bool) (A : Option Addr) (n c K : Nat) : Prop where
  hi : iv = .int .i64 (i : Int)
  box : wr.heap[g]? = some (.cells #[.bool s, .slice A n c] 69 (0, 0))
  num : Num wr wr.heap.size A n c K
  val : sg s K = a ^ i
  below : Below w.heap.size w wr

def spec (a : Int) : Bool := a == 0 || a == 1 || a == -1

set_option maxRecDepth 100000 in
set_option maxHeartbeats 4000000 in
set_option maxRecDepth 100000 in
theorem rPow_core (a n : Int) (N : Nat) (w : World) (h0 : 0 ≤ n) (hn : n ≤ 9223372036854775807) (ha : -9223372036854775808 ≤ a) (ha' : a ≤ 9223372036854775807)
    (hc : spec a = false ∧ n = (N : Int) ∨ spec a = true ∧ (n ≤ 3 ∧ n = (N : Int) ∨ 3 < n ∧ 2 + n % 2 = (N : Int))) :
    Calls Try.prog 37 #[.int .i64 a, .int .i64 n] w fun e w' => e = .returned (.tuple #[.int .i64 (fitV (a ^ (min N 70))), .int .i64 (fitE (a ^ (min N 70)))]) ∧ Below w.heap.size w w' := by
  have hpd := Lib.hid fun i => pow_digits a i (by omega)
  have HC := Lib.hid hc
  clear hc
  go_enter Try.func37, Try.ntmps37
  go_upto_region 3 with (fail)
  go_cut [19] (fun s wx => s = .bool (spec a) ∧ w = wx)
  case first =>
    cases z0 : (a == 0)
    · cases z1 : (a == 1)
      · go_wp2_with fail
        go_meet
        exact ⟨vbool (by unfold spec; rw [z0, z1]; simp), rfl⟩
      · go_wp2_with fail
        go_meet
        exact ⟨vbool (by unfold spec; rw [z0, z1]; simp), rfl⟩
    · go_wp2_with fail
      go_meet
      exact ⟨vbool (by unfold spec; rw [z0]; simp), rfl⟩
  case rest =>
    obtain ⟨rfl, rfl⟩ := hcut
    go_upto_if 19 with (fail)
    go_cut [1] (fun nv wx => nv = .int .i64 (N : Int) ∧ w = wx)
    case first =>
      rcases HC.out with ⟨h1, h2⟩ | ⟨h1, ⟨h2, h3⟩ | ⟨h2, h3⟩⟩
      · have H2 := Lib.hid h2
        rw [h1]
        clear h2 h1
        go_wp2_with fail
        go_meet
        exact ⟨vint H2.out, rfl⟩
      · have H2 := Lib.hid h3
        rw [h1]
        clear h3 h1
        have h4 : n ≤ 2 + n % 2 := by omega
        go_wp2_with fail
        all_goals go_meet
        all_goals exact ⟨vint (by have := H2.out; omega), rfl⟩
      · have H2 := Lib.hid h3
        rw [h1]
        have h4 : 2 + n % 2 < n := by omega
        clear h3 h1
        go_wp2_with fail
        all_goals go_meet
        all_goals exact ⟨vint (by have := H2.out; omega), rfl⟩
    case rest =>
      obtain ⟨rfl, rfl⟩ := hcut
      go_wp2_with fail
      refine (of_any 1 _ (by omega) (by omega)).mono ?_
      rintro e w1 ⟨⟨A, k, c, hk, rfl, hA⟩, h1⟩
      have hs1 := h1.size
      have hbx : (w1.alloc (Obj.cells #[.bool (decide ((1 : Int) < 0)), .slice A k c] 69)).heap[w1.heap.size]? = some (.cells #[.bool (decide ((1 : Int) < 0)), .slice A k c] 69 (0, 0)) := heap_at _ _ rfl
      have HBX := Lib.hid hbx
      have hA2 := (hA.below ((Below.refl _ _).alloc (Nat.le_refl _) (Obj.cells #[.bool (decide ((1 : Int) < 0)), .slice A k c] 69))).more (B' := w1.heap.size + 1) (by omega)
      have HBL := Lib.hid (h1.alloc hs1 (Obj.cells #[.bool (decide ((1 : Int) < 0)), .slice A k c] 69))
      clear hbx hA h1
      go_wp2
      go_loopw [7] (fun iv wr => ∃ i s A k c K, i ≤ 70 ∧ i ≤ N ∧ PowRel w w1.heap.size a iv wr i s A k c K) (fun iv _ => 70 - (intOf iv).toNat)
      case atStart =>
        refine ⟨0, _, A, k, c, _, by omega, by omega, rfl, HBX.out, hA2.more (by simp), ?_, HBL.out⟩
        rw [Int.pow_zero]; rfl
      case round =>
        clear HBX hA2 HBL hk
        obtain ⟨i, s, A, k, c, K, hi70, hiN, hr⟩ := hrel
        obtain rfl := hr.hi
        obtain ⟨c0, c1, f0, f1⟩ := box2 hr.box
        have hz := World.lt_of_heap hr.box
        have hsz := hr.below.size
        by_cases h1 : i < N
        · by_cases h2 : i < 70
          · have hnum := Lib.hid (hr.num.below (Below.refl _ _).drew)
            have hk5 : k ≤ 1000 := by
              have h5 := hpd.out i
              have h6 : K = (a ^ i).natAbs := sg_natAbs hr.val
              have h7 : k ≤ 5 * i + 1 := hr.num.short (by rw [h6]; exact h5)
              omega
            have hval := Lib.hid hr.val
            have hbox := Lib.hid hr.box
            have hbel := Lib.hid hr.below
            have hsz2 := Lib.hid hsz
            clear hr
            go_wp2
            go_region_with
              (first
                | (go_at_call 49
                   refine (of_any a _ ha ha').mono ?_
                   rintro e w3 ⟨⟨oA, on, oc, hon, rfl, hoA⟩, h3'⟩
                   have z3 := (h3'.block w1.heap.size hz).trans hbox.out
                   obtain ⟨ca3, cb3, -, -⟩ := box2 z3
                   have Z3 := Lib.hid z3
                   have H3 := Lib.hid h3'
                   have hs3 := h3'.size
                   simp at hs3
                   have HOA := Lib.hid hoA
                   clear z3 h3' hoA)
                | (go_at_call 51
                   refine (times_any _ _ A oA k c on oc w3.heap.size _ _ _ (by omega) (by omega) (Nat.le_refl _) ((hnum.out.below H3.out).more (by omega)) HOA.out).mono ?_
                   rintro e w4 ⟨⟨R, k4, r4, hk4, rfl, hR⟩, h4⟩
                   have z4 := (h4.block w1.heap.size (by omega)).trans Z3.out
                   obtain ⟨ca4, cb4, fa4, fb4⟩ := box2 z4
                   have Z4 := Lib.hid z4
                   have hs4 := h4.size
                   have HB4 := Lib.hid ((hbel.out.drew.trans (H3.out.mono (by simp; omega))).trans (h4.mono (by omega)))
                   have HR := Lib.hid hR
                   clear z4 h4 hR))
            all_goals
              have hsg : sg (s != decide (a < 0)) ((K * a.natAbs : Nat) : Int) = a ^ (i + 1) := by rw [Int.natCast_mul, sg_mul, sg_abs, hval.out, Int.pow_succ]
              have HSG := Lib.hid hsg
              clear hsg
              go_wp2
              go_roundw
              case rel =>
                refine ⟨i + 1, _, R, k4, r4, _, by omega, by omega, by go_num, ?_, ?_, HSG.out, ?_⟩
                · exact Blk.set_ (Blk.set_ Z4.out 0 _) 1 _
                · exact (HR.out.far2 Z4.out (by decide) _ _).more (by simp)
                · exact (HB4.out.setCell (by omega) _).setCell (by omega) _
              case measure => simp [intOf]; omega
          · obtain rfl : i = 70 := by omega
            have hnum := Lib.hid hr.num
            have hk5 : k ≤ 1000000 := by
              have h5 := hpd.out 70
              have h6 : K = (a ^ 70).natAbs := sg_natAbs hr.val
              have h7 : k ≤ 5 * 70 + 1 := hr.num.short (by rw [h6]; exact h5)
              omega
            have hmin : a ^ 70 = a ^ (min N 70) := by rw [show min N 70 = 70 by omega]
            have hval := Lib.hid (hr.val.trans hmin)
            have hbel := Lib.hid hr.below
            have hsz2 := Lib.hid hsz
            clear hr hmin
            go_wp2_with fail
            refine (fit_any s A k c wr.heap.size K _ hk5 (Nat.le_refl _) hnum.out).mono ?_
            rintro e w3 ⟨rfl, h3⟩
            have HB := Lib.hid (hbel.out.trans (h3.mono hsz))
            clear h3 hnum
            go_wp2
            go_ret2
            exact ⟨ret2 (vint (congrArg fitV hval.out)) (vint (congrArg fitE hval.out)), HB.out⟩
        · obtain rfl : i = N := by omega
          have hnum := Lib.hid hr.num
          have hk5 : k ≤ 1000000 := by
            have h5 := hpd.out i
            have h6 : K = (a ^ i).natAbs := sg_natAbs hr.val
            have h7 : k ≤ 5 * i + 1 := hr.num.short (by rw [h6]; exact h5)
            omega
          have hmin : a ^ i = a ^ (min i 70) := by rw [show min i 70 = i by omega]
          have hval := Lib.hid (hr.val.trans hmin)
          have hbel := Lib.hid hr.below
          have hsz2 := Lib.hid hsz
          clear hr hmin
          go_wp2_with fail
          refine (fit_any s A k c wr.heap.size K _ hk5 (Nat.le_refl _) hnum.out).mono ?_
          rintro e w3 ⟨rfl, h3⟩
          have HB := Lib.hid (hbel.out.trans (h3.mono hsz))
          clear h3 hnum
          go_wp2
          go_ret2
          exact ⟨ret2 (vint (congrArg fitV hval.out)) (vint (congrArg fitE hval.out)), HB.out⟩

theorem spec_true {a : Int} (h : spec a = true) : a = 0 ∨ a = 1 ∨ a = -1 := by
  unfold spec at h
  simp at h
  omega
theorem spec_false {a : Int} (h : spec a = false) : 2 ≤ a.natAbs := by
  unfold spec at h
  simp at h
  omega
theorem rPow_any (a n : Int) (w : World) (h0 : 0 ≤ n) (hn : n ≤ 9223372036854775807) (ha : -9223372036854775808 ≤ a) (ha' : a ≤ 9223372036854775807) :
    Calls Try.prog 37 #[.int .i64 a, .int .i64 n] w fun e w' => e = .returned (.tuple #[.int .i64 (fitV (a ^ n.toNat)), .int .i64 (fitE (a ^ n.toNat))]) ∧ Below w.heap.size w w' := by
  cases hs : spec a
  · have hg := pow_great (n := n.toNat) (spec_false hs)
    have := rPow_core a n n.toNat w h0 hn ha ha' (.inl ⟨hs, by omega⟩)
    rwa [hg.1, hg.2] at this
  · rcases Int.lt_or_le 3 n with h | h
    · have hg := pow_small (n := n.toNat) (N := (2 + n % 2).toNat) (spec_true hs) (.inr ⟨by omega, by omega⟩)
      have := rPow_core a n (2 + n % 2).toNat w h0 hn ha ha' (.inr ⟨hs, .inr ⟨by omega, by omega⟩⟩)
      rwa [hg] at this
    · have hg := pow_small (n := n.toNat) (N := n.toNat) (spec_true hs) (.inl ⟨by omega, rfl⟩)
      have := rPow_core a n n.toNat w h0 hn ha ha' (.inr ⟨hs, .inl ⟨by omega, by omega⟩⟩)
      rwa [hg] at this
end Go.Proofs.Ytifjdfdjojkagaa
