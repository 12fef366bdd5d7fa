/- The walks through coneyref01: down, Div, Mod. -/
import Derived.Test.YtifjdfdjojkagaaRef12
namespace Go.Proofs.Ytifjdfdjojkagaa
open Go.RowKit Dg

theorem results_boxes2 {fn : Func} {p q : Tmp} (h : fn.results = #[.cell p 69, .cell q 69]) (tmps : Array Value) (w : World) {g g' : Nat} {x y x' y' : Value} {t : TypeId} {m : Nat × Nat}
    (hp : tmps.getD p undef = .pointer (some ⟨g, 0, none⟩)) (hq : tmps.getD q undef = .pointer (some ⟨g', 0, none⟩)) (b1 : w.heap[g]? = some (.cells #[x, y] t m)) (b2 : w.heap[g']? = some (.cells #[x', y'] t m)) :
    (results fn tmps).run Try.prog w = .ok (.tuple #[.agg #[x, y], .agg #[x', y']]) w := by
  have c0 := cell_of_row w g 0 _ _ _ b1
  have c1 := cell_of_row w g 1 _ _ _ b1
  have d0 := cell_of_row w g' 0 _ _ _ b2
  have d1 := cell_of_row w g' 1 _ _ _ b2
  simp only [List.getElem?_toArray, List.getElem?_cons_zero, List.getElem?_cons_succ] at c0 c1 d0 d1
  rw [Array.getD_eq_getD_getElem?] at hp hq
  simp [results, h, hp, hq, go_sem, c0, c1, d0, d1]

theorem Num.far4' {w : World} {B n c N g g' : Nat} {A : Option Addr} {cs cs' : Array Value} {t : TypeId} (h : Num w B A n c N) (hx : w.heap[g]? = some (.cells cs t (0, 0))) (hx' : w.heap[g']? = some (.cells cs' t (0, 0))) (ht : ¬ 3 = t) (hg : ¬ g' = g) (u v u' v' : Value) :
    Num ((((w.setCell ⟨g, 0, none⟩ u).setCell ⟨g, 1, none⟩ v).setCell ⟨g', 0, none⟩ u').setCell ⟨g', 1, none⟩ v') B A n c N :=
  (h.far4 hx hx' ht hg u v u' v').below ⟨rfl, rfl, rfl, Nat.le_refl _, fun _ _ => rfl⟩
theorem size4 (w : World) (a b c d : Addr) (u v u' v' : Value) : ((((w.setCell a u).setCell b v).setCell c u').setCell d v').heap.size = w.heap.size := by simp
theorem below_two (w : World) (o o' : Obj) {B : Nat} (h : B ≤ w.heap.size) : Below B w ((w.alloc o).alloc o').drew := (((Below.refl _ _).alloc h _).alloc (by simp; omega) _).drew

/-- What 'down' comes to: two numbers with their signs. -/
def DownEnd (w : World) (x y : Int) (e : Ending) (w' : World) : Prop :=
  (∃ p q Q k r R l s K L, k ≤ 2000 ∧ l ≤ 2000 ∧ e = .returned (.tuple #[.agg #[.bool p, .slice Q k r], .agg #[.bool q, .slice R l s]]) ∧
    Num w' w'.heap.size Q k r K ∧ Num w' w'.heap.size R l s L ∧ sg p K = x ∧ sg q L = y) ∧ Below w.heap.size w w'

set_option maxRecDepth 100000 in
set_option maxHeartbeats 4000000 in
theorem down_any (a b : Int) (w : World) (ha : -9223372036854775808 ≤ a) (ha' : a ≤ 9223372036854775807) (hb : -9223372036854775808 ≤ b) (hb' : b ≤ 9223372036854775807) (hz : ¬ b = 0) :
    Calls Try.prog 53 #[.int .i64 a, .int .i64 b] w (DownEnd w (divS a b) (modS a b)) := by
  go_enter Try.func53, Try.ntmps53
  go_wp2_with fail
  refine (cut_any a b _ ha ha' hb hb' hz).mono ?_
  rintro e w1 ⟨⟨Q, k, r, R, l, s, hk, hl, rfl, hQ, hR⟩, h1⟩
  have hs1 := h1.size
  simp at hs1
  have hlt0 : w.heap.size < w1.heap.size := by omega
  have hlt1 : w.heap.size + 1 < w1.heap.size := by omega
  have x0 : w1.heap[w.heap.size]? = some (.cells #[.bool false, .slice none 0 0] 69 (0, 0)) := (h1.block _ (by simp; omega)).trans ((Below.heap_alloc _ _ _ (by simp)).trans (heap_at _ _ rfl))
  have x1 : w1.heap[w.heap.size + 1]? = some (.cells #[.bool false, .slice none 0 0] 69 (0, 0)) := (h1.block _ (by simp)).trans (heap_at _ _ (by simp))
  obtain ⟨c0, c1, f0, f1⟩ := box2 x0
  obtain ⟨d0, d1, g0, g1⟩ := box2 x1
  have hb1 : Below w.heap.size w w1 := (((Below.refl _ _).alloc (Nat.le_refl _) _).alloc (by simp) _).trans (h1.mono (by simp; omega))
  have HB1 := Lib.hid hb1
  have HQ := Lib.hid hQ
  have HR := Lib.hid hR
  have X0 := Lib.hid x0
  have X1 := Lib.hid x1
  have hlz := Lib.hid hR.zero
  have hrem := Lib.hid (sg_rem a b)
  have hquo := Lib.hid (sg_div a b)
  clear h1 hb1 hQ hR x0 x1
  by_cases hl0 : l = 0
  · subst hl0
    have h0 : a.natAbs % b.natAbs = 0 := hlz.out.1 rfl
    have h1 : (a.tmod b).natAbs = a.natAbs % b.natAbs := Int.natAbs_tmod a b
    have ht : a.tmod b = 0 := by omega
    have hdv : sg (decide (a < 0) != decide (b < 0)) ((a.natAbs / b.natAbs : Nat) : Int) = divS a b := by rw [divS_not (low_not0 ht)]; exact hquo.out
    have hmv : sg (decide (a < 0)) ((a.natAbs % b.natAbs : Nat) : Int) = modS a b := by rw [modS_not (low_not0 ht)]; exact hrem.out
    have HDV := Lib.hid hdv
    have HMV := Lib.hid hmv
    clear h0 h1 ht hdv hmv
    go_wp2
    go_region
    go_wp2
    have y0 := Blk.set_ (Blk.set_ X0.out 0 (.bool (decide (a < 0) != decide (b < 0)))) 1 (.slice Q k r)
    have y1 := Blk.set_ (Blk.set_ ((Below.heap_setCell _ ⟨w.heap.size, 1, none⟩ (.slice Q k r) _ (by simp)).trans ((Below.heap_setCell _ ⟨w.heap.size, 0, none⟩ (.bool (decide (a < 0) != decide (b < 0))) _ (by simp)).trans X1.out)) 0 (.bool (decide (a < 0)))) 1 (.slice R 0 s)
    have y0 := (Below.heap_setCell _ ⟨w.heap.size + 1, 1, none⟩ (.slice R 0 s) w.heap.size (by simp)).trans ((Below.heap_setCell _ ⟨w.heap.size + 1, 0, none⟩ (.bool (decide (a < 0))) w.heap.size (by simp)).trans y0)
    refine bodyPost_ret (results_boxes2 rfl _ _ rfl rfl ((Below.heap_alloc _ _ _ (by simp; omega)).trans ((Below.heap_alloc _ _ _ (by simp; omega)).trans y0)) ((Below.heap_alloc _ _ _ (by simp; omega)).trans ((Below.heap_alloc _ _ _ (by simp; omega)).trans y1))) rfl ?_
    refine ⟨⟨_, _, Q, k, r, R, 0, s, _, _, by omega, by omega, rfl, ?_, ?_, HDV.out, HMV.out⟩, ?_⟩
    · exact ((HQ.out.far4' X0.out X1.out (by decide) (by omega) _ _ _ _).below (below_two _ _ _ (by rw [size4]; omega))).more (by simp; omega)
    · exact ((HR.out.far4' X0.out X1.out (by decide) (by omega) _ _ _ _).below (below_two _ _ _ (by rw [size4]; omega))).more (by simp; omega)
    · exact ((((HB1.out.setCell (by simp) _).setCell (by simp) _).setCell (by simp) _).setCell (by simp) _).trans (below_two _ _ _ (by rw [size4]; omega))
  · have hl1 : (0 : Int) < l := by omega
    by_cases hs : (decide (a < 0) != decide (b < 0)) = true
    · have hs2 : (!decide (a < 0) == decide (b < 0)) = true := hs
      have hml : (a.tmod b != 0) = true := by
        have h0 : ¬ a.natAbs % b.natAbs = 0 := fun h => hl0 (hlz.out.2 h)
        have h1 : (a.tmod b).natAbs = a.natAbs % b.natAbs := Int.natAbs_tmod a b
        simp; omega
      have hlow := Lib.hid (low_mk ⟨hml, hs2⟩)
      have hbw := below_two w1 (Obj.cells #[.bool (decide (a < 0) != decide (b < 0)), .slice Q k r] 69) (Obj.cells #[.bool (decide (a < 0)), .slice R l s] 69) (Nat.le_refl w1.heap.size)
      have x2 : ((w1.alloc (Obj.cells #[.bool (decide (a < 0) != decide (b < 0)), .slice Q k r] 69)).alloc (Obj.cells #[.bool (decide (a < 0)), .slice R l s] 69)).heap[w1.heap.size]? = some (.cells #[.bool (decide (a < 0) != decide (b < 0)), .slice Q k r] 69 (0, 0)) := (Below.heap_alloc _ _ _ (by simp)).trans (heap_at _ _ rfl)
      have x3 : ((w1.alloc (Obj.cells #[.bool (decide (a < 0) != decide (b < 0)), .slice Q k r] 69)).alloc (Obj.cells #[.bool (decide (a < 0)), .slice R l s] 69)).heap[w1.heap.size + 1]? = some (.cells #[.bool (decide (a < 0)), .slice R l s] 69 (0, 0)) := heap_at _ _ (by simp)
      have x0 : ((w1.alloc (Obj.cells #[.bool (decide (a < 0) != decide (b < 0)), .slice Q k r] 69)).alloc (Obj.cells #[.bool (decide (a < 0)), .slice R l s] 69)).heap[w.heap.size]? = some (.cells #[.bool false, .slice none 0 0] 69 (0, 0)) := (Below.heap_alloc _ _ _ (by simp; omega)).trans ((Below.heap_alloc _ _ _ (by omega)).trans X0.out)
      have x1 : ((w1.alloc (Obj.cells #[.bool (decide (a < 0) != decide (b < 0)), .slice Q k r] 69)).alloc (Obj.cells #[.bool (decide (a < 0)), .slice R l s] 69)).heap[w.heap.size + 1]? = some (.cells #[.bool false, .slice none 0 0] 69 (0, 0)) := (Below.heap_alloc _ _ _ (by simp; omega)).trans ((Below.heap_alloc _ _ _ (by omega)).trans X1.out)
      have Y0 := Lib.hid x0
      have Y1 := Lib.hid x1
      have Y2 := Lib.hid x2
      have Y3 := Lib.hid x3
      have HBW := Lib.hid hbw
      have HS1 := Lib.hid hs1
      clear hs hml x0 x1 x2 x3 hbw
      obtain ⟨ca, cb, -, -⟩ := box2 Y2.out
      obtain ⟨cc, cd, -, -⟩ := box2 Y3.out
      have tk1 : True := trivial
      have tk2 : True := trivial
      have tk3 : True := trivial
      have tk4 : True := trivial
      go_wp2
      go_region_held3 (fun w' => w'.cell? ⟨w1.heap.size, 0, none⟩ = some (.bool (decide (a < 0) != decide (b < 0))) ∧ w'.cell? ⟨w1.heap.size, 1, none⟩ = some (.slice Q k r) ∧
          w'.cell? ⟨w1.heap.size + 1, 0, none⟩ = some (.bool (decide (a < 0))) ∧ w'.cell? ⟨w1.heap.size + 1, 1, none⟩ = some (.slice R l s))
        (first | ((try dsimp only); refine ⟨?_, ?_, ?_, ?_⟩ <;> (first | (simp [*]; done) | (simp [go_sem, World.cell?_setCell_other, *]; done))))
        (first
          | (go_at_call 49
             have _t := tk1
             refine (of_any (-1) _ (by omega) (by omega)).mono ?_
             rintro e w2 ⟨⟨oA, on, oc, hon, rfl, hoA⟩, h2⟩
             have z2 := (h2.block w1.heap.size (by simp; omega)).trans Y2.out
             have z3 := (h2.block (w1.heap.size + 1) (by simp)).trans Y3.out
             obtain ⟨ca2, cb2, -, -⟩ := box2 z2
             obtain ⟨cc2, cd2, -, -⟩ := box2 z3
             have Z2 := Lib.hid z2
             have Z3 := Lib.hid z3
             have H2 := Lib.hid h2
             have HOA := Lib.hid hoA
             have HQ2 := Lib.hid (((HQ.out.below HBW.out).below (h2.mono (by simp; omega))).more (B' := w2.heap.size) (by have := h2.size; simp at this; omega))
             have HR2 := Lib.hid (((HR.out.below HBW.out).below (h2.mono (by simp; omega))).more (B' := w2.heap.size) (by have := h2.size; simp at this; omega))
             have hsz2 : w1.heap.size + 1 + 1 ≤ w2.heap.size := by have := h2.size; simp at this; omega
             have Z0 := Lib.hid ((h2.block w.heap.size (by simp; omega)).trans Y0.out)
             have Z1 := Lib.hid ((h2.block (w.heap.size + 1) (by simp; omega)).trans Y1.out)
             have HB2 := Lib.hid ((HB1.out.trans (HBW.out.mono (by omega))).trans (h2.mono (by simp; omega)))
             clear tk1 z2 z3 h2 hoA)
          | (go_at_call 50
             have _t := tk2
             refine (sum_any _ _ Q oA k r on oc w2.heap.size _ _ _ (by omega) (by omega) (Nat.le_refl _) HQ2.out HOA.out).mono ?_
             rintro e w3 ⟨⟨s1, S1, sk1, sr1, K1, hsk1, rfl, hS1, hK1⟩, h3⟩
             obtain ⟨ca3, cb3, -, -⟩ := box2 ((h3.block w1.heap.size (by omega)).trans Z2.out)
             obtain ⟨cc3, cd3, -, -⟩ := box2 ((h3.block (w1.heap.size + 1) (by omega)).trans Z3.out)
             have H3 := Lib.hid h3
             have hsz3 := h3.size
             have HK1 := Lib.hid hK1
             have HS1' := Lib.hid hS1
             clear tk2 h3 hS1 hK1)
          | (go_at_call 49
             have _t := tk3
             refine (of_any b _ hb hb').mono ?_
             rintro e w4 ⟨⟨pA, pn, pc, hpn, rfl, hpA⟩, h4⟩
             obtain ⟨ca4, cb4, -, -⟩ := box2 ((h4.block w1.heap.size (by omega)).trans ((H3.out.block w1.heap.size (by omega)).trans Z2.out))
             obtain ⟨cc4, cd4, -, -⟩ := box2 ((h4.block (w1.heap.size + 1) (by omega)).trans ((H3.out.block (w1.heap.size + 1) (by omega)).trans Z3.out))
             have H4 := Lib.hid h4
             have hsz4 := h4.size
             have HPA := Lib.hid hpA
             clear tk3 h4 hpA)
          | (go_at_call 50
             have _t := tk4
             refine (sum_any _ _ R pA l s pn pc w4.heap.size _ _ _ (by omega) (by omega) (Nat.le_refl _) (((HR2.out.below H3.out).below (H4.out.mono hsz3)).more (by omega)) HPA.out).mono ?_
             rintro e w5 ⟨⟨s2, S2, sk2, sr2, K2, hsk2, rfl, hS2, hK2⟩, h5⟩
             have hsz5 := h5.size
             have q0 := (h5.block w.heap.size (by omega)).trans ((H4.out.block w.heap.size (by omega)).trans ((H3.out.block w.heap.size (by omega)).trans Z0.out))
             have q1 := (h5.block (w.heap.size + 1) (by omega)).trans ((H4.out.block (w.heap.size + 1) (by omega)).trans ((H3.out.block (w.heap.size + 1) (by omega)).trans Z1.out))
             obtain ⟨ca5, cb5, -, -⟩ := box2 ((h5.block w1.heap.size (by omega)).trans ((H4.out.block w1.heap.size (by omega)).trans ((H3.out.block w1.heap.size (by omega)).trans Z2.out)))
             obtain ⟨cc5, cd5, -, -⟩ := box2 ((h5.block (w1.heap.size + 1) (by omega)).trans ((H4.out.block (w1.heap.size + 1) (by omega)).trans ((H3.out.block (w1.heap.size + 1) (by omega)).trans Z3.out)))
             obtain ⟨e0, e1, k0, k1⟩ := box2 q0
             obtain ⟨e2, e3, k2, k3⟩ := box2 q1
             have Q0 := Lib.hid q0
             have Q1 := Lib.hid q1
             have HS1f := Lib.hid (((HS1'.out.below H4.out).below (h5.mono hsz4)).more (B' := w5.heap.size) (by omega))
             have HS2f := Lib.hid hS2
             have HK2 := Lib.hid hK2
             have HBf := Lib.hid (((HB2.out.trans (H3.out.mono (by omega))).trans (H4.out.mono (by omega))).trans (h5.mono (by omega)))
             clear tk4 h5 hS2 hK2 q0 q1))
      have hk1 : sg s1 K1 = divS a b := by
        rw [HK1.out, divS_low hlow.out, hquo.out]
        rfl
      have hk2 : sg s2 K2 = modS a b := by
        rw [HK2.out, modS_low hlow.out, hrem.out, sg_abs]
      have HK1' := Lib.hid hk1
      have HK2' := Lib.hid hk2
      clear hk1 hk2
      go_wp2
      have y0 := Blk.set_ (Blk.set_ Q0.out 0 (.bool s1)) 1 (.slice S1 sk1 sr1)
      have y1 := Blk.set_ (Blk.set_ ((Below.heap_setCell _ ⟨w.heap.size, 1, none⟩ (.slice S1 sk1 sr1) _ (by simp)).trans ((Below.heap_setCell _ ⟨w.heap.size, 0, none⟩ (.bool s1) _ (by simp)).trans Q1.out)) 0 (.bool s2)) 1 (.slice S2 sk2 sr2)
      have y0 := (Below.heap_setCell _ ⟨w.heap.size + 1, 1, none⟩ (.slice S2 sk2 sr2) w.heap.size (by simp)).trans ((Below.heap_setCell _ ⟨w.heap.size + 1, 0, none⟩ (.bool s2) w.heap.size (by simp)).trans y0)
      refine bodyPost_ret (results_boxes2 rfl _ _ rfl rfl y0 y1) rfl ?_
      refine ⟨⟨_, _, S1, sk1, sr1, S2, sk2, sr2, _, _, by omega, by omega, rfl, ?_, ?_, HK1'.out, HK2'.out⟩, ?_⟩
      · exact (HS1f.out.far4' Q0.out Q1.out (by decide) (by omega) _ _ _ _).more (by simp)
      · exact (HS2f.out.far4' Q0.out Q1.out (by decide) (by omega) _ _ _ _).more (by simp)
      · exact (((HBf.out.setCell (by simp) _).setCell (by simp) _).setCell (by simp) _).setCell (by simp) _
    · have hs2 : (!decide (a < 0) == decide (b < 0)) = false := by simpa [bne] using hs
      have hdv : sg (decide (a < 0) != decide (b < 0)) ((a.natAbs / b.natAbs : Nat) : Int) = divS a b := by rw [divS_not (low_no (.inr hs2))]; exact hquo.out
      have hmv : sg (decide (a < 0)) ((a.natAbs % b.natAbs : Nat) : Int) = modS a b := by rw [modS_not (low_no (.inr hs2))]; exact hrem.out
      have HDV := Lib.hid hdv
      have HMV := Lib.hid hmv
      clear hs hdv hmv
      go_wp2
      go_region
      go_wp2
      have y0 := Blk.set_ (Blk.set_ X0.out 0 (.bool (decide (a < 0) != decide (b < 0)))) 1 (.slice Q k r)
      have y1 := Blk.set_ (Blk.set_ ((Below.heap_setCell _ ⟨w.heap.size, 1, none⟩ (.slice Q k r) _ (by simp)).trans ((Below.heap_setCell _ ⟨w.heap.size, 0, none⟩ (.bool (decide (a < 0) != decide (b < 0))) _ (by simp)).trans X1.out)) 0 (.bool (decide (a < 0)))) 1 (.slice R l s)
      have y0 := (Below.heap_setCell _ ⟨w.heap.size + 1, 1, none⟩ (.slice R l s) w.heap.size (by simp)).trans ((Below.heap_setCell _ ⟨w.heap.size + 1, 0, none⟩ (.bool (decide (a < 0))) w.heap.size (by simp)).trans y0)
      refine bodyPost_ret (results_boxes2 rfl _ _ rfl rfl ((Below.heap_alloc _ _ _ (by simp; omega)).trans ((Below.heap_alloc _ _ _ (by simp; omega)).trans y0)) ((Below.heap_alloc _ _ _ (by simp; omega)).trans ((Below.heap_alloc _ _ _ (by simp; omega)).trans y1))) rfl ?_
      refine ⟨⟨_, _, Q, k, r, R, l, s, _, _, by omega, by omega, rfl, ?_, ?_, HDV.out, HMV.out⟩, ?_⟩
      · exact ((HQ.out.far4' X0.out X1.out (by decide) (by omega) _ _ _ _).below (below_two _ _ _ (by rw [size4]; omega))).more (by simp; omega)
      · exact ((HR.out.far4' X0.out X1.out (by decide) (by omega) _ _ _ _).below (below_two _ _ _ (by rw [size4]; omega))).more (by simp; omega)
      · exact ((((HB1.out.setCell (by simp) _).setCell (by simp) _).setCell (by simp) _).setCell (by simp) _).trans (below_two _ _ _ (by rw [size4]; omega))
end Go.Proofs.Ytifjdfdjojkagaa
