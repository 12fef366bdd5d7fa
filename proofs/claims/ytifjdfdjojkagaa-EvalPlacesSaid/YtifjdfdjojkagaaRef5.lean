/- The walks through coneyref01: sum, minus. -/
import Derived.Test.YtifjdfdjojkagaaRef4
import Derived.Deep.RegionHeld3
namespace Go.Proofs.Ytifjdfdjojkagaa
open Go.RowKit Dg

set_option maxHeartbeats 2000000 in
theorem sum_same (p : Bool) (A A' : Option Addr) (n c m c' B M N : Nat) (w : World) (hn : n ≤ 1000000) (hm : m ≤ 1000000) (hB : B ≤ w.heap.size) (ha : Num w B A n c M) (hb : Num w B A' m c' N) :
    Calls Try.prog 50 #[.agg #[.bool p, .slice A n c], .agg #[.bool p, .slice A' m c']] w
      fun e w' => (∃ R k r, k ≤ max n m + 1 ∧ e = .returned (.agg #[.bool p, .slice R k r]) ∧ Num w' w'.heap.size R k r (M + N)) ∧ Below w.heap.size w w' := by
  go_enter Try.func50, Try.ntmps50
  go_wp2_with fail
  have hB2 : B ≤ (((w.alloc (Obj.cells #[.bool p, .slice A n c] 69)).alloc (Obj.cells #[.bool p, .slice A' m c'] 69)).alloc (Obj.cells #[.bool false, .slice none 0 0] 69)).heap.size := by simp; omega
  have hbw : Below w.heap.size w (((w.alloc (Obj.cells #[.bool p, .slice A n c] 69)).alloc (Obj.cells #[.bool p, .slice A' m c'] 69)).alloc (Obj.cells #[.bool false, .slice none 0 0] 69)) := (((Below.refl _ _).alloc (Nat.le_refl _) _).alloc (by simp) _).alloc (by simp; omega) _
  have ha2 := ha.below (hbw.mono hB).drew
  have hb2 := hb.below (hbw.mono hB).drew
  go_region_held3 (fun w' => w'.cell? ⟨w.heap.size, 0, none⟩ = some (.bool p) ∧ w'.cell? ⟨w.heap.size, 1, none⟩ = some (.slice A n c) ∧ w'.cell? ⟨w.heap.size + 1, 1, none⟩ = some (.slice A' m c'))
    (first | ((try dsimp only); refine ⟨?_, ?_, ?_⟩ <;> (first | (simp [*, World.cell?_alloc_some, World.cell?_setCell_far]; done) | (simp [go_sem, World.cell?_setCell_other, *]; done))))
    (first
      | (go_at_call 84
         refine (plus_any A A' n c m c' B M N _ hn hm (by exact hB2) (by exact ha2) (by exact hb2)).mono ?_
         rintro e w1 ⟨⟨R, k, r, hk, rfl, hnum⟩, hb1⟩
         have c0 : w1.cell? ⟨w.heap.size, 0, none⟩ = some (.bool p) := (hb1.cell (p := ⟨w.heap.size, 0, none⟩) (by simp; omega)).trans (by simp [go_sem])
         have c1 : w1.cell? ⟨w.heap.size, 1, none⟩ = some (.slice A n c) := (hb1.cell (p := ⟨w.heap.size, 1, none⟩) (by simp; omega)).trans (by simp [go_sem])
         have c2 : w1.cell? ⟨w.heap.size + 1, 1, none⟩ = some (.slice A' m c') := (hb1.cell (p := ⟨w.heap.size + 1, 1, none⟩) (by simp)).trans (by simp [go_sem])
         have c3 : w1.cell? ⟨w.heap.size + 1 + 1, 0, none⟩ = some (.bool false) := (hb1.cell (p := ⟨w.heap.size + 1 + 1, 0, none⟩) (by simp)).trans (by simp [go_sem])
         have c4 : w1.cell? ⟨w.heap.size + 1 + 1, 1, none⟩ = some (.slice none 0 0) := (hb1.cell (p := ⟨w.heap.size + 1 + 1, 1, none⟩) (by simp)).trans (by simp [go_sem])
         have f3 : w1.frozen? ⟨w.heap.size + 1 + 1, 0, none⟩ = false := (hb1.frozen (p := ⟨w.heap.size + 1 + 1, 0, none⟩) (by simp)).trans (by simp [go_sem])
         have f4 : w1.frozen? ⟨w.heap.size + 1 + 1, 1, none⟩ = false := (hb1.frozen (p := ⟨w.heap.size + 1 + 1, 1, none⟩) (by simp)).trans (by simp [go_sem])))
  have hh : w1.heap[w.heap.size + 1 + 1]? = some (.cells #[.bool false, .slice none 0 0] 69 (0, 0)) := (hb1.block (w.heap.size + 1 + 1) (by simp)).trans (heap_at _ _ (by simp))
  have HH := Lib.hid hh
  have HN := Lib.hid hnum
  have HB := Lib.hid hb1
  have HW := Lib.hid hbw
  clear hh hnum hb1 hbw ha2 hb2
  go_wp2
  refine bodyPost_ret (v := .agg #[.bool p, .slice R k r]) (by simp [results, Try.results50, go_sem, c3, c4]) rfl ⟨⟨R, k, r, hk, rfl, ?_⟩, ?_⟩
  · exact Num.more ((HN.out.far HH.out (by decide) _).far (Blk.set_ HH.out 0 _) (by decide) _) (by simp)
  · exact ((HW.out.drew.trans (HB.out.mono (by simp; omega))).setCell (by simp; omega) _).setCell (by simp; omega) _

theorem cmpN_ge {x y : Nat} (h : y ≤ x) : 0 ≤ cmpN x y := by unfold cmpN; split <;> (try split) <;> omega

set_option maxHeartbeats 2000000 in
theorem sum_other (p : Bool) (A A' : Option Addr) (n c m c' B M N : Nat) (w : World) (hn : n ≤ 1000000) (hm : m ≤ 1000000) (hB : B ≤ w.heap.size) (ha : Num w B A n c M) (hb : Num w B A' m c' N) :
    Calls Try.prog 50 #[.agg #[.bool p, .slice A n c], .agg #[.bool (!p), .slice A' m c']] w
      fun e w' => (∃ s R k r K, k ≤ max n m + 1 ∧ e = .returned (.agg #[.bool s, .slice R k r]) ∧ Num w' w'.heap.size R k r K ∧ sg s K = sg p M + sg (!p) N) ∧ Below w.heap.size w w' := by
  have hp : (p == !p) = false := by cases p <;> rfl
  have hbw : Below w.heap.size w (((w.alloc (Obj.cells #[.bool p, .slice A n c] 69)).alloc (Obj.cells #[.bool (!p), .slice A' m c'] 69)).alloc (Obj.cells #[.bool false, .slice none 0 0] 69)) := (((Below.refl _ _).alloc (Nat.le_refl _) _).alloc (by simp) _).alloc (by simp; omega) _
  have hA := ha.below (hbw.mono hB)
  have hA' := hb.below (hbw.mono hB)
  have hwsz : (((w.alloc (Obj.cells #[.bool p, .slice A n c] 69)).alloc (Obj.cells #[.bool (!p), .slice A' m c'] 69)).alloc (Obj.cells #[.bool false, .slice none 0 0] 69)).heap.size = w.heap.size + 3 := by simp
  have HW := Lib.hid hbw
  have HS := Lib.hid hwsz
  clear hbw hwsz
  go_enter Try.func50, Try.ntmps50
  go_wp2_with fail
  refine (order_any A A' n c m c' B M N _ hn hm (by rw [HS.out]; omega) hA hA').mono ?_
  rintro e w1 ⟨rfl, hb1⟩
  have hx0 : w1.heap[w.heap.size]? = some (.cells #[.bool p, .slice A n c] 69 (0, 0)) := (hb1.block _ (by simp; omega)).trans ((Below.heap_alloc _ _ _ (by simp; omega)).trans ((Below.heap_alloc _ _ _ (by simp)).trans (heap_at _ _ rfl)))
  have hx1 : w1.heap[w.heap.size + 1]? = some (.cells #[.bool (!p), .slice A' m c'] 69 (0, 0)) := (hb1.block _ (by simp)).trans ((Below.heap_alloc _ _ _ (by simp)).trans (heap_at _ _ (by simp)))
  have hx2 : w1.heap[w.heap.size + 1 + 1]? = some (.cells #[.bool false, .slice none 0 0] 69 (0, 0)) := (hb1.block _ (by simp)).trans (heap_at _ _ (by simp))
  obtain ⟨c0, c1, -, -⟩ := box2 hx0
  obtain ⟨d0, d1, -, -⟩ := box2 hx1
  obtain ⟨e0, e1, f0, f1⟩ := box2 hx2
  have hz0 := World.lt_of_heap hx0
  have hz1 := World.lt_of_heap hx1
  have hz2 := World.lt_of_heap hx2
  have hsz : w.heap.size ≤ w1.heap.size := by omega
  have ha2 := (hA.below (hb1.mono (by rw [HS.out]; omega))).below (Below.refl _ _).drew
  have hb3 := (hA'.below (hb1.mono (by rw [HS.out]; omega))).below (Below.refl _ _).drew
  have hb12 := Lib.hid ((HW.out.trans (hb1.mono (by rw [HS.out]; omega))).drew)
  clear hb1 hA hA'
  have hBs : B ≤ w1.heap.size := by omega
  by_cases hle : N ≤ M
  · have hge := cmpN_ge hle
    have HL := Lib.hid hle
    go_wp2_with fail
    go_region_held3 (fun w' => w'.cell? ⟨w.heap.size, 0, none⟩ = some (.bool p) ∧ w'.cell? ⟨w.heap.size, 1, none⟩ = some (.slice A n c) ∧ w'.cell? ⟨w.heap.size + 1, 1, none⟩ = some (.slice A' m c'))
      (first | ((try dsimp only); refine ⟨?_, ?_, ?_⟩ <;> (first | (simp [*, World.cell?_setCell_far]; done) | (simp [go_sem, World.cell?_setCell_other, *]; done))))
      (first
        | (go_at_call 85
           refine (less_any A A' n c m c' B M N _ hn hm (by exact hBs) (by exact ha2) (by exact hb3) HL.out).mono ?_
           rintro e w2 ⟨⟨R, k, r, hk, rfl, hnum⟩, hb2⟩
           obtain ⟨c0, c1, -, -⟩ := box2 ((hb2.block _ hz0).trans hx0)
           obtain ⟨d0, d1, -, -⟩ := box2 ((hb2.block _ hz1).trans hx1)
           obtain ⟨e0, e1, f0, f1⟩ := box2 ((hb2.block _ hz2).trans hx2)))
    have HH := Lib.hid ((hb2.block _ hz2).trans hx2)
    have HN := Lib.hid hnum
    have HB := Lib.hid (hb12.out.trans (hb2.mono (by exact hsz)))
    clear hnum hb2 ha2 hb3 hx0 hx1 hx2
    go_wp2
    refine bodyPost_ret (v := .agg #[.bool p, .slice R k r]) (by simp [results, Try.results50, go_sem, e0, e1]) rfl ⟨⟨p, R, k, r, _, by omega, rfl, Num.more ((HN.out.far HH.out (by decide) _).far (Blk.set_ HH.out 0 _) (by decide) _) (by simp), ?_⟩, ?_⟩
    · cases p <;> simp [sg] <;> omega
    · exact (HB.out.setCell (by simp; omega) _).setCell (by simp; omega) _

  · have hlt : cmpN M N < 0 := by rw [cmpN_lt (by omega)]; decide
    have HL : Hid (M ≤ N) := (by omega : M ≤ N)
    go_wp2_with fail
    go_region_held3 (fun w' => w'.cell? ⟨w.heap.size + 1, 0, none⟩ = some (.bool (!p)) ∧ w'.cell? ⟨w.heap.size, 1, none⟩ = some (.slice A n c) ∧ w'.cell? ⟨w.heap.size + 1, 1, none⟩ = some (.slice A' m c'))
      (first | ((try dsimp only); refine ⟨?_, ?_, ?_⟩ <;> (first | (simp [*, World.cell?_setCell_far]; done) | (simp [go_sem, World.cell?_setCell_other, *]; done))))
      (first
        | (go_at_call 85
           refine (less_any A' A m c' n c B N M _ hm hn (by exact hBs) (by exact hb3) (by exact ha2) HL.out).mono ?_
           rintro e w2 ⟨⟨R, k, r, hk, rfl, hnum⟩, hb2⟩
           obtain ⟨c0, c1, -, -⟩ := box2 ((hb2.block _ hz0).trans hx0)
           obtain ⟨d0, d1, -, -⟩ := box2 ((hb2.block _ hz1).trans hx1)
           obtain ⟨e0, e1, f0, f1⟩ := box2 ((hb2.block _ hz2).trans hx2)))
    have HH := Lib.hid ((hb2.block _ hz2).trans hx2)
    have HN := Lib.hid hnum
    have HB := Lib.hid (hb12.out.trans (hb2.mono (by exact hsz)))
    clear hnum hb2 ha2 hb3 hx0 hx1 hx2
    go_wp2
    refine bodyPost_ret (v := .agg #[.bool (!p), .slice R k r]) (by simp [results, Try.results50, go_sem, e0, e1]) rfl ⟨⟨(!p), R, k, r, _, by omega, rfl, Num.more ((HN.out.far HH.out (by decide) _).far (Blk.set_ HH.out 0 _) (by decide) _) (by simp), ?_⟩, ?_⟩
    · cases p <;> simp [sg] <;> omega
    · exact (HB.out.setCell (by simp; omega) _).setCell (by simp; omega) _


theorem sum_any (p q : Bool) (A A' : Option Addr) (n c m c' B M N : Nat) (w : World) (hn : n ≤ 1000000) (hm : m ≤ 1000000) (hB : B ≤ w.heap.size) (ha : Num w B A n c M) (hb : Num w B A' m c' N) :
    Calls Try.prog 50 #[.agg #[.bool p, .slice A n c], .agg #[.bool q, .slice A' m c']] w
      fun e w' => (∃ s R k r K, k ≤ max n m + 1 ∧ e = .returned (.agg #[.bool s, .slice R k r]) ∧ Num w' w'.heap.size R k r K ∧ sg s K = sg p M + sg q N) ∧ Below w.heap.size w w' := by
  by_cases h : q = p
  · subst h
    refine (sum_same q A A' n c m c' B M N w hn hm hB ha hb).mono ?_
    rintro e w' ⟨⟨R, k, r, hk, he, hN⟩, hb⟩
    exact ⟨⟨q, R, k, r, _, hk, he, hN, by cases q <;> simp [sg] <;> omega⟩, hb⟩
  · have : q = !p := by cases p <;> cases q <;> simp at h ⊢
    subst this
    exact sum_other p A A' n c m c' B M N w hn hm hB ha hb

set_option maxHeartbeats 1000000 in
theorem minus_any (p : Bool) (A : Option Addr) (n c B M : Nat) (w : World) (hB : B ≤ w.heap.size) (ha : Num w B A n c M) :
    Calls Try.prog 48 #[.agg #[.bool p, .slice A n c]] w
      fun e w' => (e = .returned (.agg #[.bool (!p), .slice A n c]) ∧ Num w' w'.heap.size A n c M) ∧ Below w.heap.size w w' := by
  go_enter Try.func48, Try.ntmps48
  go_wp2
  have hb2 : Below w.heap.size w ((w.alloc (Obj.cells #[.bool p, .slice A n c] 69)).alloc (Obj.cells #[.bool (!p), .slice A n c] 69)) := ((Below.refl _ _).alloc (Nat.le_refl _) _).alloc (by simp) _
  exact bodyPost_ret (v := .agg #[.bool (!p), .slice A n c]) (by simp [results, Try.results48, go_sem]) rfl ⟨⟨rfl, (ha.below (hb2.mono hB)).more (by simp; omega)⟩, hb2⟩
end Go.Proofs.Ytifjdfdjojkagaa
