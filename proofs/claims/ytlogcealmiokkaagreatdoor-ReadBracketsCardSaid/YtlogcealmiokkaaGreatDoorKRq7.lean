/- The program's parser: variable. -/
import Derived.Test.YtlogcealmiokkaaGreatDoorKRq6
namespace Go.Proofs.YtlogcealmiokkaaGreatDoor
open Go.RowKit
def firstI (nm : ByteArray) : List ByteArray → Nat → Option Nat
 | [], _ => none
 | x :: l, i => if x = nm then some i else firstI nm l (i + 1)
theorem var_first {nm : ByteArray} (h : nm ≠ ⟨#[95]⟩) : ∀ (ns : List ByteArray) (i : Nat), varI nm ns i = firstI nm ns i
 | [], _ => rfl
 | x :: l, i => by
  unfold varI firstI
  by_cases hx : x = nm
  ·rw [if_pos ⟨hx, h⟩, if_pos hx]
  ·rw [if_neg (fun e => hx e.1), if_neg hx, var_first h l (i + 1)]
theorem var_us (ns : List ByteArray) : ∀ i, varI ⟨#[95]⟩ ns i = none := by
 induction ns with
 | nil => exact fun _ => rfl
 | cons x l ih =>
  intro i
  unfold varI
  rw [if_neg (fun e => e.2 rfl), ih]
theorem first_on {nm y : ByteArray} {ns : List ByteArray} {j : Nat} (h : j < ns.length) (hy : ns[j]'h = y) (h1 : y ≠ nm) (hI : firstI nm ns 0 = firstI nm (ns.drop j) j) : firstI nm ns 0 = firstI nm (ns.drop (j + 1)) (j + 1) := by
 rw [hI, List.drop_eq_getElem_cons h, hy, firstI, if_neg h1]
theorem first_hit {nm y : ByteArray} {ns : List ByteArray} {j : Nat} (h : j < ns.length) (hy : ns[j]'h = y) (h1 : y = nm) (hI : firstI nm ns 0 = firstI nm (ns.drop j) j) : firstI nm ns 0 = some j := by
 rw [hI, List.drop_eq_getElem_cons h, hy, firstI, if_pos h1]
theorem first_end {nm : ByteArray} {ns : List ByteArray} (hI : firstI nm ns 0 = firstI nm (ns.drop ns.length) ns.length) : firstI nm ns 0 = none := by
 rw [hI, List.drop_length, firstI]
set_option maxRecDepth 100000 in
set_option maxHeartbeats 2000000 in
theorem indexS_any {B : Nat} {names : List ByteArray} {A : Option Addr} {cc : Nat} {w : World} (ho : w.ownsRow B 9 1 (.slice A names.length cc) names.length (names.map Value.string)) (hl : names.length ≤ 1000) (nm : ByteArray) :
 Calls Tryz.prog 91 #[.slice A names.length cc, .string nm] w fun e w' => (∃ r : Int, e = .returned (.int .i64 r) ∧ Hid ((∃ j : Nat, r = j ∧ j < names.length ∧ firstI nm names 0 = some j) ∨ (r = -1 ∧ firstI nm names 0 = none))) ∧ w' = w := by
 obtain ⟨A', cc', e, hcc, hA, hcm, hx⟩ := own_open ho
 injection e with e1 _ e3
 subst e1 e3
 have HX := Lib.hid hx
 clear hx ho
 go_enter Tryz.func91, Tryz.ntmps91
 go_wp2_with fail
 go_loopw [4, 5, 8] (fun _ _ iv wr => ∃ j : Nat, iv = .int .i64 (j : Int) ∧ j ≤ names.length ∧ Hid (firstI nm names 0 = firstI nm (names.drop j) j) ∧ w = wr) (fun _ _ iv _ => names.length - (intOf iv).toNat)
 case atStart => exact ⟨0, rfl, Nat.zero_le _, Lib.hid rfl, rfl⟩
 case round =>
  obtain ⟨j, rfl, hj, hI, rfl⟩ := hrel
  by_cases hjn : j < names.length
  ·have hjn' : (j : Int) < (names.length : Int) := by omega
   obtain ⟨g, cur, rfl, _, hg, hcur⟩ := HX.out (by omega)
   have hgl := heap_lt hg
   have hcell : w.cell? ⟨g, j, none⟩ = some (.string (names[j]'(by omega))) := by
    rw [cell_of_row w g j _ _ _ hg, hcur j (by omega)]
    simp [List.getElem?_eq_getElem (show j < names.length by omega)]
   obtain ⟨y, hy⟩ : ∃ y, names[j]'(by omega) = y := ⟨_, rfl⟩
   rw [hy] at hcell
   have HY := Lib.hid hy
   have HN := Lib.hid hjn
   clear hy
   cases q1 : (nm.toList == y.toList) with
   | true =>
    have HV := Lib.hid (first_hit hjn HY.out (by apply ByteArray.ext; apply Array.toList_inj.1; have h : nm.toList = y.toList := by simpa using q1
                                                 rw [ByteArray.toList_eq, ByteArray.toList_eq] at h; exact h.symm) hI.out)
    go_wp2_with fail
    go_ret
    exact ⟨⟨_, rfl, Lib.hid (.inl ⟨j, rfl, HN.out, HV.out⟩)⟩, rfl⟩
   | false =>
    have HV := Lib.hid (first_on hjn HY.out (by rintro rfl; simp at q1) hI.out)
    go_wp2_with fail
    go_roundw
    case rel => exact ⟨j + 1, by go_num, by omega, HV, trivial⟩
    case measure => simp [intOf]; omega
  ·obtain rfl : j = names.length := by omega
   have HV := Lib.hid (first_end hI.out)
   go_wp2_with fail
   go_ret
   exact ⟨⟨_, rfl, Lib.hid (.inr ⟨rfl, HV.out⟩)⟩, rfl⟩
theorem Frp.grown {c : Rdc} {w w' : World} {v : Value} {n : Nat} {xs : List Value} (h : w.ownsRow (c.B + c.N) 9 1 v n xs) (hg : w.grownBy w' v.ownBlock) (hB : c.B ≤ w.heap.size) : Frp c w w' :=
 ⟨(Below.refl _ _).grown hg hB fun k hk => Nat.le_trans (Nat.le_add_right _ _) (h.lt k hk).1, fun b _ t _ hb _ ht => (hg.block b (heap_lt hb) (by
   by_cases hs : t = 9
   ·intro e
    have := (h.lt b e.symm).1
    have := ht hs
    omega
   ·exact own_ne h hb hs)).trans hb⟩
theorem Pd.named {w w1 : World} {c : Rdc} {j : Nat} {lv nv v1 : Value} {nn : Nat} {names names' : List ByteArray} (ht : TokW w c) (hf : ∀ x ∈ c.tk, x.fine) (hr : PdW w c j lv nv nn names) (hn : nn + 1 ≤ j)
 (hg : w.grownBy w1 nv.ownBlock) (hown : w1.ownsRow (c.B + c.N) 9 1 v1 (nn + 1) (names'.map Value.string)) : Pd (w1.setCell ⟨c.R, 2, none⟩ v1) c j names' ∧ w1.heap[c.R]? = w.heap[c.R]? := by
 have hblk := (hg.block c.R (heap_lt hr.blk) (own_ne hr.own hr.blk (by decide))).trans hr.blk
 have ht1 : TokW w1 c := ht.keep fun b cs hb => hg.block b (heap_lt hb) (own_ne hr.own hb (by decide))
 refine ⟨⟨ht1.keep fun b cs hb => Below.heap_setCell _ _ _ _ (by
  rintro rfl
  rw [hblk] at hb
  injection hb with hb
  injection hb with _ hb
  exact absurd hb (by decide)), hf, lv, v1, nn + 1, by simpa using blk_set hblk 2 v1, hr.lok, own_keep hown fun g hg' => Below.heap_setCell _ _ _ _ (by
  rintro rfl
  exact own_ne hown hblk (by decide) hg'.symm), hr.up, hn⟩, hblk.trans hr.blk.symm⟩
theorem PdW.below {w w' : World} {c : Rdc} {j : Nat} {lv nv : Value} {nn : Nat} {names : List ByteArray} (h : PdW w c j lv nv nn names) (hb : Below w.heap.size w w') : PdW w' c j lv nv nn names :=
 ⟨(hb.block _ (heap_lt h.blk)).trans h.blk, h.lok, own_below h.own hb, h.up, h.few⟩
set_option maxRecDepth 100000 in
set_option maxHeartbeats 4000000 in
theorem pvariable_any {c : Rdc} {i : Nat} {names : List ByteArray} (nm : ByteArray) (w : World) (h : Pd w c (i + 1) names) (hni : names.length ≤ i) (hN : c.B + c.N ≤ w.heap.size) :
 Calls Tryz.prog 73 #[.pointer (some ⟨c.R, 0, none⟩), .string nm] w fun e w' => e = .returned (.agg #[.int .i64 1, .int .i64 ((varN nm names).1 : Int), .string ⟨#[]⟩, .slice none 0 0]) ∧ Pd w' c (i + 1) (varN nm names).2 ∧ Frp c w w' := by
 have H := Lib.hid h
 have hlt := h.lt
 have hB := h.base
 have hBR := h.1.BR
 obtain ⟨ht, hfi, lv, nv, nn, hr⟩ := h
 have htn := hr.up
 have hfew := ht.few
 obtain ⟨r0, r1, r2⟩ := hr.cells
 have rf := hr.thaw
 have hl : names.length = nn := by have := own_len hr.own; simpa using this
 subst hl
 obtain ⟨A, cc, rfl, hcc, hA, hcm, _⟩ := own_open hr.own
 have HR := Lib.hid hr
 have HT := Lib.hid ht
 have HFI := Lib.hid hfi
 have B1 := Lib.hid (belP (Below.refl w.heap.size w) (Obj.cells #[.int .i64 0, .int .i64 0, .string ⟨#[]⟩, .slice none 0 0] 31))
 have F1 := Lib.hid (Frp.of_below B1.out hB)
 have x0 := Lib.hid (heap_alloc_new w (Obj.cells #[.int .i64 0, .int .i64 0, .string ⟨#[]⟩, .slice none 0 0] 31))
 have CI := Lib.hid (indexS_any (own_below hr.own B1.out) (by omega) nm)
 have HTA := Lib.hid (show ∀ g, c.TA = some ⟨g, 0, none⟩ → w.heap.size ≠ g from fun g hg => by
  have := H.out.tok_lt (by omega) hg; omega)
 clear hr ht hfi
 go_enter Tryz.func73, Tryz.ntmps73
 go_wp2_with fail
 refine CI.out.mono ?_
 rintro e w1 ⟨⟨r, rfl, hrr⟩, rfl⟩
 cases q2 : (nm.toList == [95]) with
 | true =>
  have hnm : nm = ⟨#[95]⟩ := by
   apply ByteArray.ext; apply Array.toList_inj.1
   have h : nm.toList = [95] := by simpa using q2
   rw [ByteArray.toList_eq] at h
   exact h
  have HV := Lib.hid (show varN nm names = (names.length, names ++ [nm]) by
   unfold varN
   rw [hnm, var_us])
  clear hnm
  rcases hrr.out with ⟨j, rfl, hj, hfj⟩ | ⟨rfl, hfn⟩
  ·have hj0 : ¬ ((j : Int) < 0) := by omega
   clear hfj hrr CI
   have hnn : names.length + 1 ≤ i + 1 := by omega
   have B2 := Lib.hid (belP B1.out (Obj.cells #[.string nm] 9))
   have HR2 := Lib.hid (HR.out.below B2.out)
   have HT2 := Lib.hid (HT.out.below B2.out)
   have hbox := Lib.hid ((Below.heap_alloc (w.alloc (Obj.cells #[.int .i64 0, .int .i64 0, .string ⟨#[]⟩, .slice none 0 0] 31)) (Obj.cells #[.string nm] 9) w.heap.size (by simp)).trans x0.out)
   go_wp2_with (at_builtin; go_must (refine wpList_append_cells _ rfl _ _ _ rfl elStr (c.B + c.N) _ _ _ rfl HR2.out.own (some ⟨w.heap.size + 1, 0, none⟩) 1 1 [.string nm] rfl (fun h => by cases h) (Nat.le_refl _) rfl (fun _ => ⟨_, 0, rfl, ?_⟩) ?_ (by omega) (by unfold maxLen; omega) (by simp; omega) ?_))
   ·intro k u hu
    match k, hu with
    | 0, hu => simp at hu; subst hu; exact (cell_of_row _ _ 0 _ _ _ ((congrArg _ (by simp)).trans (heap_alloc_new _ _)))
   ·intro u hu
    simp at hu
    subst hu
    rfl
   intro v1 w1 hown1 hg1
   obtain ⟨P1, P2⟩ := Pd.named (names' := names ++ [nm]) HT2.out HFI.out HR2.out hnn hg1 (by simpa using hown1)
   obtain ⟨A1, c1, rfl, _, _, _, _⟩ := own_open hown1
   have rblk := P2.trans HR2.out.blk
   have rfz : ∀ j, w1.frozen? ⟨c.R, j, none⟩ = false := fun j => by simp [World.frozen?, rblk]
   have r2' : w1.cell? ⟨c.R, 2, none⟩ = some (.slice A names.length cc) := cell_of_row w1 _ 2 _ _ _ rblk
   have hbx := (hg1.block w.heap.size (by simp; omega) (own_ne HR2.out.own hbox.out (by decide))).trans hbox.out
   have hne : c.R ≠ w.heap.size := by omega
   have hbx2 := Lib.hid ((Below.heap_setCell w1 ⟨c.R, 2, none⟩ (.slice A1 (names.length + 1) c1) w.heap.size (fun e => hne e.symm)).trans hbx)
   have F2 := Lib.hid (((Frp.of_below B2.out hB).trans (Frp.grown HR2.out.own hg1 (by simp; omega))).trans (Frp.setR hBR 2 (.slice A1 (names.length + 1) c1)))
   have P := Lib.hid P1
   have bf : ∀ j, w1.frozen? ⟨w.heap.size, j, none⟩ = false := fun j => by simp [World.frozen?, hbx]
   obtain ⟨y0, y1, y2, y3⟩ := box4t hbx
   clear P1 P2 hown1 hg1 rblk hbx r0 r1 r2 rf
   go_wp2_with fail
   obtain ⟨p0, p1, p2, p3⟩ := box4t (box_put4 hbx2.out (.int .i64 1) (.int .i64 (names.length : Int)) (.string ⟨#[]⟩) (.slice none 0 0) rfl).1
   refine bodyPost_ret (v := .agg #[.int .i64 1, .int .i64 (names.length : Int), .string ⟨#[]⟩, .slice none 0 0]) (by simp [results, go_sem, p0, p1, p2, p3]) rfl ?_
   rw [HV.out]
   exact ⟨rfl, P.out.put4 hbx2.out _ _ _ _ (by decide) (fun e => hne e.symm) HTA.out, F2.out.newput4 (Nat.le_refl _) hB _ _ _ _⟩
  ·clear hfn hrr CI
   have hnn : names.length + 1 ≤ i + 1 := by omega
   have B2 := Lib.hid (belP B1.out (Obj.cells #[.string nm] 9))
   have HR2 := Lib.hid (HR.out.below B2.out)
   have HT2 := Lib.hid (HT.out.below B2.out)
   have hbox := Lib.hid ((Below.heap_alloc (w.alloc (Obj.cells #[.int .i64 0, .int .i64 0, .string ⟨#[]⟩, .slice none 0 0] 31)) (Obj.cells #[.string nm] 9) w.heap.size (by simp)).trans x0.out)
   go_wp2_with (at_builtin; go_must (refine wpList_append_cells _ rfl _ _ _ rfl elStr (c.B + c.N) _ _ _ rfl HR2.out.own (some ⟨w.heap.size + 1, 0, none⟩) 1 1 [.string nm] rfl (fun h => by cases h) (Nat.le_refl _) rfl (fun _ => ⟨_, 0, rfl, ?_⟩) ?_ (by omega) (by unfold maxLen; omega) (by simp; omega) ?_))
   ·intro k u hu
    match k, hu with
    | 0, hu => simp at hu; subst hu; exact (cell_of_row _ _ 0 _ _ _ ((congrArg _ (by simp)).trans (heap_alloc_new _ _)))
   ·intro u hu
    simp at hu
    subst hu
    rfl
   intro v1 w1 hown1 hg1
   obtain ⟨P1, P2⟩ := Pd.named (names' := names ++ [nm]) HT2.out HFI.out HR2.out hnn hg1 (by simpa using hown1)
   obtain ⟨A1, c1, rfl, _, _, _, _⟩ := own_open hown1
   have rblk := P2.trans HR2.out.blk
   have rfz : ∀ j, w1.frozen? ⟨c.R, j, none⟩ = false := fun j => by simp [World.frozen?, rblk]
   have r2' : w1.cell? ⟨c.R, 2, none⟩ = some (.slice A names.length cc) := cell_of_row w1 _ 2 _ _ _ rblk
   have hbx := (hg1.block w.heap.size (by simp; omega) (own_ne HR2.out.own hbox.out (by decide))).trans hbox.out
   have hne : c.R ≠ w.heap.size := by omega
   have hbx2 := Lib.hid ((Below.heap_setCell w1 ⟨c.R, 2, none⟩ (.slice A1 (names.length + 1) c1) w.heap.size (fun e => hne e.symm)).trans hbx)
   have F2 := Lib.hid (((Frp.of_below B2.out hB).trans (Frp.grown HR2.out.own hg1 (by simp; omega))).trans (Frp.setR hBR 2 (.slice A1 (names.length + 1) c1)))
   have P := Lib.hid P1
   have bf : ∀ j, w1.frozen? ⟨w.heap.size, j, none⟩ = false := fun j => by simp [World.frozen?, hbx]
   obtain ⟨y0, y1, y2, y3⟩ := box4t hbx
   clear P1 P2 hown1 hg1 rblk hbx r0 r1 r2 rf
   go_wp2_with fail
   obtain ⟨p0, p1, p2, p3⟩ := box4t (box_put4 hbx2.out (.int .i64 1) (.int .i64 (names.length : Int)) (.string ⟨#[]⟩) (.slice none 0 0) rfl).1
   refine bodyPost_ret (v := .agg #[.int .i64 1, .int .i64 (names.length : Int), .string ⟨#[]⟩, .slice none 0 0]) (by simp [results, go_sem, p0, p1, p2, p3]) rfl ?_
   rw [HV.out]
   exact ⟨rfl, P.out.put4 hbx2.out _ _ _ _ (by decide) (fun e => hne e.symm) HTA.out, F2.out.newput4 (Nat.le_refl _) hB _ _ _ _⟩
 | false =>
  have hnm : nm ≠ ⟨#[95]⟩ := by
   rintro rfl
   rw [ByteArray.toList_eq] at q2
   exact absurd q2 (by decide)
  rcases hrr.out with ⟨j, rfl, hj, hfj⟩ | ⟨rfl, hfn⟩
  ·have HV := Lib.hid (show varN nm names = (j, names) by
    unfold varN
    rw [var_first hnm, hfj])
   have hj0 : ¬ ((j : Int) < 0) := by omega
   clear hfj hrr CI hnm
   go_wp2_with fail
   refine bodyPost_ret (v := .agg #[.int .i64 1, .int .i64 (j : Int), .string ⟨#[]⟩, .slice none 0 0]) (by simp [results, go_sem]) rfl ?_
   rw [HV.out]
   exact ⟨rfl, H.out.alloc _, Frp.of_below ((Below.refl _ _).alloc (Nat.le_refl _) _) hB⟩
  ·have HV := Lib.hid (show varN nm names = (names.length, names ++ [nm]) by
    unfold varN
    rw [var_first hnm, hfn])
   clear hfn hrr CI hnm
   have hnn : names.length + 1 ≤ i + 1 := by omega
   have B2 := Lib.hid (belP B1.out (Obj.cells #[.string nm] 9))
   have HR2 := Lib.hid (HR.out.below B2.out)
   have HT2 := Lib.hid (HT.out.below B2.out)
   have hbox := Lib.hid ((Below.heap_alloc (w.alloc (Obj.cells #[.int .i64 0, .int .i64 0, .string ⟨#[]⟩, .slice none 0 0] 31)) (Obj.cells #[.string nm] 9) w.heap.size (by simp)).trans x0.out)
   go_wp2_with (at_builtin; go_must (refine wpList_append_cells _ rfl _ _ _ rfl elStr (c.B + c.N) _ _ _ rfl HR2.out.own (some ⟨w.heap.size + 1, 0, none⟩) 1 1 [.string nm] rfl (fun h => by cases h) (Nat.le_refl _) rfl (fun _ => ⟨_, 0, rfl, ?_⟩) ?_ (by omega) (by unfold maxLen; omega) (by simp; omega) ?_))
   ·intro k u hu
    match k, hu with
    | 0, hu => simp at hu; subst hu; exact (cell_of_row _ _ 0 _ _ _ ((congrArg _ (by simp)).trans (heap_alloc_new _ _)))
   ·intro u hu
    simp at hu
    subst hu
    rfl
   intro v1 w1 hown1 hg1
   obtain ⟨P1, P2⟩ := Pd.named (names' := names ++ [nm]) HT2.out HFI.out HR2.out hnn hg1 (by simpa using hown1)
   obtain ⟨A1, c1, rfl, _, _, _, _⟩ := own_open hown1
   have rblk := P2.trans HR2.out.blk
   have rfz : ∀ j, w1.frozen? ⟨c.R, j, none⟩ = false := fun j => by simp [World.frozen?, rblk]
   have r2' : w1.cell? ⟨c.R, 2, none⟩ = some (.slice A names.length cc) := cell_of_row w1 _ 2 _ _ _ rblk
   have hbx := (hg1.block w.heap.size (by simp; omega) (own_ne HR2.out.own hbox.out (by decide))).trans hbox.out
   have hne : c.R ≠ w.heap.size := by omega
   have hbx2 := Lib.hid ((Below.heap_setCell w1 ⟨c.R, 2, none⟩ (.slice A1 (names.length + 1) c1) w.heap.size (fun e => hne e.symm)).trans hbx)
   have F2 := Lib.hid (((Frp.of_below B2.out hB).trans (Frp.grown HR2.out.own hg1 (by simp; omega))).trans (Frp.setR hBR 2 (.slice A1 (names.length + 1) c1)))
   have P := Lib.hid P1
   have bf : ∀ j, w1.frozen? ⟨w.heap.size, j, none⟩ = false := fun j => by simp [World.frozen?, hbx]
   obtain ⟨y0, y1, y2, y3⟩ := box4t hbx
   clear P1 P2 hown1 hg1 rblk hbx r0 r1 r2 rf
   go_wp2_with fail
   obtain ⟨p0, p1, p2, p3⟩ := box4t (box_put4 hbx2.out (.int .i64 1) (.int .i64 (names.length : Int)) (.string ⟨#[]⟩) (.slice none 0 0) rfl).1
   refine bodyPost_ret (v := .agg #[.int .i64 1, .int .i64 (names.length : Int), .string ⟨#[]⟩, .slice none 0 0]) (by simp [results, go_sem, p0, p1, p2, p3]) rfl ?_
   rw [HV.out]
   exact ⟨rfl, P.out.put4 hbx2.out _ _ _ _ (by decide) (fun e => hne e.symm) HTA.out, F2.out.newput4 (Nat.le_refl _) hB _ _ _ _⟩
end Go.Proofs.YtlogcealmiokkaaGreatDoor
