/- The walks through coneyref01: cut, Quo, Rem. -/
import Derived.Test.YtifjdfdjojkagaaRef11
namespace Go.Proofs.Ytifjdfdjojkagaa
open Go.RowKit Dg

theorem Num.far2 {w : World} {B n c N g : Nat} {A : Option Addr} {cs : Array Value} {t : TypeId} (h : Num w B A n c N) (hx : w.heap[g]? = some (.cells cs t (0, 0))) (ht : ¬ 3 = t) (u v : Value) :
    Num ((w.setCell ⟨g, 0, none⟩ u).setCell ⟨g, 1, none⟩ v) B A n c N := (h.far hx ht u).far (Blk.set_ hx 0 u) ht v
theorem Num.far4 {w : World} {B n c N g g' : Nat} {A : Option Addr} {cs cs' : Array Value} {t : TypeId} (h : Num w B A n c N) (hx : w.heap[g]? = some (.cells cs t (0, 0))) (hx' : w.heap[g']? = some (.cells cs' t (0, 0))) (ht : ¬ 3 = t) (hg : ¬ g' = g) (u v u' v' : Value) :
    Num ((((w.setCell ⟨g, 0, none⟩ u).setCell ⟨g, 1, none⟩ v).setCell ⟨g', 0, none⟩ u').setCell ⟨g', 1, none⟩ v').drew B A n c N :=
  ((h.far2 hx ht u v).far2 ((Below.heap_setCell _ _ _ _ hg).trans ((Below.heap_setCell _ _ _ _ hg).trans hx')) ht u' v').below (Below.refl _ _).drew
theorem Below.set4 {a w : World} {B g g' : Nat} (h : Below B a w) (hg : B ≤ g) (hg' : B ≤ g') (u v u' v' : Value) : Below B a ((((w.setCell ⟨g, 0, none⟩ u).setCell ⟨g, 1, none⟩ v).setCell ⟨g', 0, none⟩ u').setCell ⟨g', 1, none⟩ v').drew :=
  ((((h.setCell hg _).setCell hg _).setCell hg' _).setCell hg' _).drew

set_option maxRecDepth 100000 in
set_option maxHeartbeats 2000000 in
theorem cut_any (a b : Int) (w : World) (ha : -9223372036854775808 ≤ a) (ha' : a ≤ 9223372036854775807) (hb : -9223372036854775808 ≤ b) (hb' : b ≤ 9223372036854775807) (hz : ¬ b = 0) :
    Calls Try.prog 52 #[.int .i64 a, .int .i64 b] w
      fun e w' => (∃ Q k r R l s, k ≤ 1000 ∧ l ≤ 1000 ∧ e = .returned (.tuple #[.agg #[.bool (decide (a < 0) != decide (b < 0)), .slice Q k r], .agg #[.bool (decide (a < 0)), .slice R l s]]) ∧
        Num w' w'.heap.size Q k r (a.natAbs / b.natAbs) ∧ Num w' w'.heap.size R l s (a.natAbs % b.natAbs)) ∧ Below w.heap.size w w' := by
  go_enter Try.func52, Try.ntmps52
  go_wp2_with fail
  refine (of_any a _ ha ha').mono ?_
  rintro e w1 ⟨⟨A, n, c, hn, rfl, hA⟩, h1⟩
  have hbz : ¬ b.natAbs = 0 := by omega
  have hsz1 := h1.size
  simp at hsz1
  have x0 : w1.heap[w.heap.size]? = some (.cells #[.bool false, .slice none 0 0] 69 (0, 0)) := (h1.block _ (by simp; omega)).trans ((Below.heap_alloc _ _ _ (by simp)).trans (heap_at _ _ rfl))
  have x1 : w1.heap[w.heap.size + 1]? = some (.cells #[.bool false, .slice none 0 0] 69 (0, 0)) := (h1.block _ (by simp)).trans (heap_at _ _ (by simp))
  have hb1 : Below w.heap.size w w1 := (((Below.refl _ _).alloc (Nat.le_refl _) _).alloc (by simp) _).trans (h1.mono (by simp; omega))
  clear h1
  go_wp2_with fail
  refine (of_any b _ hb hb').mono ?_
  rintro e w2 ⟨⟨A', m, c', hm, rfl, hA'⟩, h2⟩
  have hsz2 := h2.size
  simp at hsz2
  have x0 := (h2.block _ (by simp; omega)).trans ((Below.heap_alloc _ _ _ (by omega)).trans x0)
  have x1 := (h2.block _ (by simp; omega)).trans ((Below.heap_alloc _ _ _ (by omega)).trans x1)
  have x2 : w2.heap[w1.heap.size]? = some (.cells #[.bool (decide (a < 0)), .slice A n c] 69 (0, 0)) := (h2.block _ (by simp)).trans (heap_at _ _ rfl)
  have hb2 : Below w.heap.size w w2 := (hb1.alloc (by omega) _).trans (h2.mono (by simp; omega))
  have hA2 := (hA.below ((Below.refl _ _).alloc (Nat.le_refl _) _)).below (h2.mono (by simp))
  clear h2 hb1 hA
  obtain ⟨-, c1, -, -⟩ := box2 x2
  have hlt12 : w1.heap.size < w2.heap.size := by omega
  go_wp2_with fail
  refine (halves_any A A' n c m c' w2.heap.size _ _ _ (by omega) (by omega) (by simp) ((hA2.more (by omega)).below ((Below.refl _ _).alloc (Nat.le_refl _) _)) (hA'.below ((Below.refl _ _).alloc (Nat.le_refl _) _)) (by omega) (by
    have : (2 : Nat) ^ 65 = 36893488147419103232 := by decide
    omega)).mono ?_
  rintro e w3 ⟨⟨Q, k, r, R, l, s, hk, hl, rfl, hQ, hR⟩, h3⟩
  have hsz3 := h3.size
  simp at hsz3
  have x0 := (h3.block _ (by simp; omega)).trans ((Below.heap_alloc _ _ _ (by omega)).trans x0)
  have x1 := (h3.block _ (by simp; omega)).trans ((Below.heap_alloc _ _ _ (by omega)).trans x1)
  have x2 := (h3.block _ (by simp; omega)).trans ((Below.heap_alloc _ _ _ hlt12).trans x2)
  have x3 : w3.heap[w2.heap.size]? = some (.cells #[.bool (decide (b < 0)), .slice A' m c'] 69 (0, 0)) := (h3.block _ (by simp)).trans (heap_at _ _ rfl)
  have hb3 : Below w.heap.size w w3 := (hb2.alloc (by omega) _).trans (h3.mono (by simp; omega))
  clear h3 hb2 hA2 hA' c1
  obtain ⟨c0, c1, f0, f1⟩ := box2 x0
  obtain ⟨d0, d1, g0, g1⟩ := box2 x1
  obtain ⟨e0, -, -, -⟩ := box2 x2
  obtain ⟨e1, -, -, -⟩ := box2 x3
  have X0 := Lib.hid x0
  have X1 := Lib.hid x1
  have HB := Lib.hid hb3
  have HQ := Lib.hid hQ
  have HR := Lib.hid hR
  have hn1 : ¬ w.heap.size = w1.heap.size := by omega
  have hn2 : ¬ w.heap.size = w2.heap.size := by omega
  have hn3 : ¬ w.heap.size + 1 = w1.heap.size := by omega
  have hn4 : ¬ w.heap.size + 1 = w2.heap.size := by omega
  clear x0 x1 x2 x3 hb3 hQ hR
  go_wp2_with fail
  go_region
  go_wp2
  refine bodyPost_ret (v := .tuple #[.agg #[.bool (!(decide (a < 0) == decide (b < 0))), .slice Q k r], .agg #[.bool (decide (a < 0)), .slice R l s]]) (by simp [results, Try.results52, go_sem, c0, c1, d0, d1, World.cell?_setCell_other]) rfl ⟨⟨Q, k, r, R, l, s, hk, hl, rfl, ?_, ?_⟩, ?_⟩
  · exact (HQ.out.far4 X0.out X1.out (by decide) (by omega) _ _ _ _).more (by simp)
  · exact (HR.out.far4 X0.out X1.out (by decide) (by omega) _ _ _ _).more (by simp)
  · exact Below.set4 HB.out (by omega) (by omega) _ _ _ _

theorem sg_div (a b : Int) : sg (decide (a < 0) != decide (b < 0)) ((a.natAbs / b.natAbs : Nat) : Int) = a.tdiv b := by
  have h1 : (a.tdiv b).natAbs = a.natAbs / b.natAbs := Int.natAbs_tdiv a b
  by_cases ha : a < 0
  · by_cases hb : b < 0
    · have h2 := Int.tdiv_nonneg (a := -a) (b := -b) (by omega) (by omega)
      rw [Int.neg_tdiv, Int.tdiv_neg] at h2
      have e : (decide (a < 0) != decide (b < 0)) = false := by simp [ha, hb]
      rw [e, sgF]; omega
    · have h2 := Int.tdiv_nonneg (a := -a) (b := b) (by omega) (by omega)
      rw [Int.neg_tdiv] at h2
      have e : (decide (a < 0) != decide (b < 0)) = true := by simp [ha, hb]
      rw [e, sgT]; omega
  · by_cases hb : b < 0
    · have h2 := Int.tdiv_nonneg (a := a) (b := -b) (by omega) (by omega)
      rw [Int.tdiv_neg] at h2
      have e : (decide (a < 0) != decide (b < 0)) = true := by simp [ha, hb]
      rw [e, sgT]; omega
    · have h2 := Int.tdiv_nonneg (a := a) (b := b) (by omega) (by omega)
      have e : (decide (a < 0) != decide (b < 0)) = false := by simp [ha, hb]
      rw [e, sgF]; omega
theorem sg_rem (a b : Int) : sg (decide (a < 0)) ((a.natAbs % b.natAbs : Nat) : Int) = a.tmod b := by
  have h1 : (a.tmod b).natAbs = a.natAbs % b.natAbs := Int.natAbs_tmod a b
  have h2 := tmod_sign a b
  unfold sg
  split <;> rename_i h <;> simp at h <;> omega

set_option maxHeartbeats 1000000 in
theorem rQuo_zero (a : Int) (w : World) :
    Calls Try.prog 33 #[.int .i64 a, .int .i64 0] w fun e w' => e = .returned (.tuple #[.int .i64 0, .int .i64 11]) ∧ Below w.heap.size w w' := by
  go_enter Try.func33, Try.ntmps33
  go_wp2
  go_ret2
  exact ⟨rfl, Below.refl _ _⟩
set_option maxHeartbeats 1000000 in
theorem rRem_zero (a : Int) (w : World) :
    Calls Try.prog 34 #[.int .i64 a, .int .i64 0] w fun e w' => e = .returned (.tuple #[.int .i64 0, .int .i64 11]) ∧ Below w.heap.size w w' := by
  go_enter Try.func34, Try.ntmps34
  go_wp2
  go_ret2
  exact ⟨rfl, Below.refl _ _⟩
set_option maxHeartbeats 1000000 in
theorem rQuo_any (a b : Int) (w : World) (ha : -9223372036854775808 ≤ a) (ha' : a ≤ 9223372036854775807) (hb : -9223372036854775808 ≤ b) (hb' : b ≤ 9223372036854775807) (hz : ¬ b = 0) :
    Calls Try.prog 33 #[.int .i64 a, .int .i64 b] w fun e w' => e = .returned (.tuple #[.int .i64 (fitV (a.tdiv b)), .int .i64 (fitE (a.tdiv b))]) ∧ Below w.heap.size w w' := by
  have hz2 : (b == 0) = false := by simpa using hz
  go_enter Try.func33, Try.ntmps33
  go_wp2_with fail
  refine (cut_any a b _ ha ha' hb hb' hz).mono ?_
  rintro e w1 ⟨⟨Q, k, r, R, l, s, hk, hl, rfl, hQ, hR⟩, h1⟩
  have hs1 := h1.size
  go_wp2_with fail
  refine (fit_any _ Q k r w1.heap.size _ _ (by omega) (by simp; omega) (hQ.below (((Below.refl _ _).alloc (Nat.le_refl _) _).alloc (by simp) _))).mono ?_
  rintro e w2 ⟨rfl, h2⟩
  have HB := Lib.hid (((h1.alloc hs1 _).alloc (by simp; omega) _).trans (h2.mono (by simp; omega)))
  have HK := Lib.hid (sg_div a b)
  clear h1 h2 hQ hR
  go_wp2
  go_ret2
  exact ⟨ret2 (vint (congrArg fitV HK.out)) (vint (congrArg fitE HK.out)), HB.out⟩
set_option maxHeartbeats 1000000 in
theorem rRem_fit (a b : Int) (w : World) (ha : -9223372036854775808 ≤ a) (ha' : a ≤ 9223372036854775807) (hb : -9223372036854775808 ≤ b) (hb' : b ≤ 9223372036854775807) (hz : ¬ b = 0) :
    Calls Try.prog 34 #[.int .i64 a, .int .i64 b] w fun e w' => e = .returned (.tuple #[.int .i64 (fitV (a.tmod b)), .int .i64 (fitE (a.tmod b))]) ∧ Below w.heap.size w w' := by
  have hz2 : (b == 0) = false := by simpa using hz
  go_enter Try.func34, Try.ntmps34
  go_wp2_with fail
  refine (cut_any a b _ ha ha' hb hb' hz).mono ?_
  rintro e w1 ⟨⟨Q, k, r, R, l, s, hk, hl, rfl, hQ, hR⟩, h1⟩
  have hs1 := h1.size
  go_wp2_with fail
  refine (fit_any _ R l s w1.heap.size _ _ (by omega) (by simp; omega) (hR.below (((Below.refl _ _).alloc (Nat.le_refl _) _).alloc (by simp) _))).mono ?_
  rintro e w2 ⟨rfl, h2⟩
  have HB := Lib.hid (((h1.alloc hs1 _).alloc (by simp; omega) _).trans (h2.mono (by simp; omega)))
  have HK := Lib.hid (sg_rem a b)
  clear h1 h2 hQ hR
  go_wp2
  go_ret2
  exact ⟨ret2 (vint (congrArg fitV HK.out)) (vint (congrArg fitE HK.out)), HB.out⟩
theorem rRem_any (a b : Int) (w : World) (ha : -9223372036854775808 ≤ a) (ha' : a ≤ 9223372036854775807) (hb : -9223372036854775808 ≤ b) (hb' : b ≤ 9223372036854775807) (hz : ¬ b = 0) :
    Calls Try.prog 34 #[.int .i64 a, .int .i64 b] w fun e w' => e = .returned (.tuple #[.int .i64 (a.tmod b), .int .i64 0]) ∧ Below w.heap.size w w' := by
  have h := rRem_fit a b w ha ha' hb hb' hz
  have h1 := tmod_bd a b hz
  have h2 := tmod_sign a b
  rwa [fitV_in (by omega) (by omega), fitE_in (by omega) (by omega)] at h
end Go.Proofs.Ytifjdfdjojkagaa
