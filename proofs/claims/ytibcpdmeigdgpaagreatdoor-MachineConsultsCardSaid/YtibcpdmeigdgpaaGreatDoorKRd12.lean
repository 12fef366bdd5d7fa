/- The reference's parser: a term. -/
import Derived.Test.YtibcpdmeigdgpaaGreatDoorKRd11
import Derived.Deep.RegionWith
import Derived.Deep.DeepCutAuto
import Derived.Deep.CutRange
import Derived.Deep.CutBlock
namespace Go.Proofs.YtibcpdmeigdgpaaGreatDoor
open Go.RowKit
theorem nil_ret {c : Rdc} {w wk : World} {i j : Nat} {ns' : List ByteArray} {pl pl' er er' : Int} {res : PR T} (H : Rd wk c j ns' pl' er') (F : Fr c w wk) (hj : i ≤ j) (hn : er' ≠ 0) (hsp : Sp er pl er' pl' res (T.mk 0 0 ⟨#[]⟩ 0 fun _ => .nil, j, ns')) : RetT c w i i pl er res (.agg #[.int .i64 0, .int .i64 0, .string ⟨#[]⟩, .slice none 0 0]) wk :=
 ⟨j, er', _, _, _, H, F, hj, TP.leaf _ _ 0 0 ⟨#[]⟩, (fun e => absurd e hn), Lib.hid hsp⟩
set_option maxRecDepth 100000 in
set_option maxHeartbeats 4000000 in
theorem term_deep (c : Rdc) (D : Nat) (hD : 64 < D) (hD' : D ≤ 1000) : TermC c (D : Int) (termP c.tk c.s.size 0) := by
 intro most w i ns pl er h
 have hB := h.base
 have hRw := h.lt
 have H := Lib.hid h
 have hd : (64 : Int) < (D : Int) := by omega
 have fl := fld_tok2
 obtain ⟨r2, r5, rf⟩ := h.cells
 clear h
 have H1 := Lib.hid (H.out.alloc (Obj.cells #[.int .i64 0, .int .i64 0, .string ⟨#[]⟩, .slice none 0 0] 39))
 have F1 := Lib.hid (Fr.of_below ((Below.refl w.heap.size w).alloc (Nat.le_refl _) (Obj.cells #[.int .i64 0, .int .i64 0, .string ⟨#[]⟩, .slice none 0 0] 39)) hB)
 by_cases he : er = 0
 ·subst he
  go_enter Tryz.func26, Tryz.ntmps26
  go_wp2_with fail
  refine (next_any _ H1.out).mono ?_
  rintro e w2 ⟨rfl, h2⟩
  go_wp2_with fail
  refine (fail_any _ 52 _ (by decide) (H1.out.below h2)).mono ?_
  rintro e w3 ⟨rfl, ⟨er3, pl3, h3, hn3, hs3⟩, f3⟩
  have H3 := Lib.hid h3
  have F3 := Lib.hid ((F1.out.trans (Fr.of_below h2 H1.out.base)).trans f3)
  have hE3 := Lib.hid (f3.box (H1.out.below h2) ((h2.block w.heap.size (by simp)).trans (heap_alloc_new w (Obj.cells #[.int .i64 0, .int .i64 0, .string ⟨#[]⟩, .slice none 0 0] 39))) (by decide) (by decide))
  obtain ⟨s2, s5, sf⟩ := h3.cells
  have hn3' : (er3 != 0) = true := by simpa using hn3
  have bf : ∀ j, w3.frozen? ⟨w.heap.size, j, none⟩ = false := fun j => by simp [World.frozen?, hE3.out]
  obtain ⟨x0, x1, x2, x3⟩ := box4t hE3.out
  clear h2 h3 f3 r2 r5 rf
  go_wp2_with fail
  obtain ⟨p0, p1, p2, p3⟩ := box4t (box_put4 hE3.out (.int .i64 0) (.int .i64 0) (.string ⟨#[]⟩) (.slice none 0 0) rfl).1
  refine bodyPost_ret (v := .agg #[.int .i64 0, .int .i64 0, .string ⟨#[]⟩, .slice none 0 0]) (by simp [results, go_sem, p0, p1, p2, p3]) rfl ?_
  exact ⟨_, rfl, ret_box H3.out F3.out hB hE3.out (Nat.le_refl _) (TP.leaf _ _ 0 0 ⟨#[]⟩) (Nat.le_refl _) (fun e => absurd e hn3) (Lib.hid (Sp.any (hs3.out ((), 0, [])) _))⟩
 ·have he1 : (er == 0) = false := by simpa using he
  have he2 : (er != 0) = true := by simpa using he
  go_enter Tryz.func26, Tryz.ntmps26
  go_wp2_with fail
  refine bodyPost_ret (v := .agg #[.int .i64 0, .int .i64 0, .string ⟨#[]⟩, .slice none 0 0]) (by simp [results, go_sem]) rfl ?_
  exact ⟨_, rfl, nil_ret H1.out F1.out (Nat.le_refl _) he (Sp.stays he _ _)⟩
structure TermI (c : Rdc) (w : World) (i : Nat) (er : Int) (wr : World) (j : Nat) (er' : Int) (gt : Nat) (t : T) (a0 a1 : Int) (a2 : ByteArray) (a3 : Option Addr) (a4 a5 : Nat) (ns : List ByteArray) (pl : Int) : Prop where
 box : wr.heap[gt]? = some (.cells #[.int .i64 a0, .int .i64 a1, .string a2, .slice a3 a4 a5] 39 (0, 0))
 ht : TP wr (fun b => w.heap.size + 1 ≤ b ∧ b ≠ gt) t (.agg #[.int .i64 a0, .int .i64 a1, .string a2, .slice a3 a4 a5])
 res : wr.heap[w.heap.size]? = some (.cells #[.int .i64 0, .int .i64 0, .string ⟨#[]⟩, .slice none 0 0] 39 (0, 0))
 hgt : w.heap.size + 1 ≤ gt
 rd : Rd wr c j ns pl er'
 fr : Fr c w wr
 lo : i ≤ j
 ok : er' = 0 → er = 0 ∧ t.good ∧ i + t.nodes ≤ j
theorem TermI.stand {c : Rdc} {w wr w1 : World} {i j j1 gt : Nat} {er er' er1 : Int} {t : T} {a0 a1 : Int} {a2 : ByteArray} {a3 : Option Addr} {a4 a5 : Nat} {ns ns1 : List ByteArray} {pl pl1 : Int} (h : TermI c w i er wr j er' gt t a0 a1 a2 a3 a4 a5 ns pl)
 (hf : Fr c wr w1) (hr : Rd w1 c j1 ns1 pl1 er1) (hj : j ≤ j1) (he : er1 = 0 → er' = 0) : TermI c w i er w1 j1 er1 gt t a0 a1 a2 a3 a4 a5 ns1 pl1 :=
 ⟨hf.box h.rd h.box (by decide) (by decide), h.ht.fr hf h.rd, hf.box h.rd h.res (by decide) (by decide), h.hgt, hr, h.fr.trans hf, Nat.le_trans h.lo hj, fun e => by
  obtain ⟨g0, g1, g2⟩ := h.ok (he e)
  exact ⟨g0, g1, Nat.le_trans g2 hj⟩⟩
theorem TermI.two {c : Rdc} {w wr w8 w9 : World} {i j j8 gt : Nat} {er er8 : Int} {t t8 : T} {nm : ByteArray} {a0 a1 : Int} {a2 : ByteArray} {a3 : Option Addr} {a4 a5 : Nat} {b3 : Option Addr} {b5 : Nat} {ns ns8 : List ByteArray} {pl pl8 : Int} (h : TermI c w i er wr j 0 gt t a0 a1 a2 a3 a4 a5 ns pl) (hB : c.B ≤ w.heap.size) (hnm : nameOk nm)
 (f8 : Fr c wr w8) (h8 : Rd w8 c j8 ns8 pl8 er8) (hj8 : j + 1 ≤ j8) (hok8 : er8 = 0 → t8.good ∧ j + 1 + t8.nodes ≤ j8) (h9 : Below w8.heap.size w8 w9)
 (hv9 : TP w9 (fun b => (w.heap.size + 1 ≤ b ∧ b ≠ gt) ∨ w8.heap.size ≤ b) (.mk 4 0 nm 2 fun i => if i = 0 then t else t8) (.agg #[.int .i64 4, .int .i64 0, .string nm, .slice b3 2 b5])) :
 TermI c w i er ((((w9.setCell ⟨gt, 0, none⟩ (.int .i64 4)).setCell ⟨gt, 1, none⟩ (.int .i64 0)).setCell ⟨gt, 2, none⟩ (.string nm)).setCell ⟨gt, 3, none⟩ (.slice b3 2 b5)) j8 er8 gt (.mk 4 0 nm 2 fun i => if i = 0 then t else t8) 4 0 nm b3 2 b5 ns8 pl8 := by
 have hb8 := f8.box h.rd h.box (by decide) (by decide)
 have hgl := heap_lt hb8
 have hb9 := (h9.block gt hgl).trans hb8
 have hr9 := (h9.block _ (heap_lt (f8.box h.rd h.res (by decide) (by decide)))).trans (f8.box h.rd h.res (by decide) (by decide))
 have hgt := h.hgt
 have hs8 := (h.fr.trans f8).size
 obtain ⟨P0, P1, P2, P3⟩ := box_put4 hb9 (.int .i64 4) (.int .i64 0) (.string nm) (.slice b3 2 b5) rfl
 have hg2 := heap_lt h.box
 refine ⟨P0, (tp_put hb9 _ _ _ _ hv9 fun b hb => ?_).more fun b hb => ?_, (P2 _ (by omega)).trans hr9, h.hgt, (h8.below h9).put hb9 _ _ _ _, ((h.fr.trans f8).trans (Fr.of_below h9 h8.base)).put (by omega) hB hb9 _ _ _ _, by have := h.lo; omega, fun e => ?_⟩
 ·rcases hb with hb | hb
  ·exact hb.2
  ·omega
 ·rcases hb with hb | hb
  ·exact hb
  ·exact ⟨by omega, by omega⟩
 ·obtain ⟨g0, g1, g2⟩ := h.ok rfl
  obtain ⟨q1, q2⟩ := hok8 e
  exact ⟨g0, two_good _ hnm g1 q1, by rw [two_nodes]; omega⟩
section
variable {tk : List Tk} {sz : Nat} {tm : Int → Nat → List ByteArray → PR T} {most : Int} {f : Nat} {t : T} {pr : Int} {j : Nat} {ns : List ByteArray}
theorem infix_no (h : (nxT tk sz j).k ≠ 1 ∧ isM tk sz j ⟨#[44]⟩ = false) : infixC tk sz tm most f t pr j ns = .ok (t, j, ns) := by
 cases f with
 | zero => rfl
 | succ f => unfold infixC; dsimp only; rw [if_pos h]
theorem infix_none (h : opIn (nxT tk sz j).t = none) : infixC tk sz tm most f t pr j ns = .ok (t, j, ns) := by
 cases f with
 | zero => rfl
 | succ f =>
  unfold infixC; dsimp only
  split
  ·rfl
  ·rw [h]
theorem infix_low {p l r : Int} (h : opIn (nxT tk sz j).t = some (p, l, r)) (hp : most < p ∨ l < pr) : infixC tk sz tm most f t pr j ns = .ok (t, j, ns) := by
 cases f with
 | zero => rfl
 | succ f =>
  unfold infixC; dsimp only
  split
  ·rfl
  ·rw [h]; exact if_pos hp
theorem infix_go {p l r : Int} (hn : ¬ ((nxT tk sz j).k ≠ 1 ∧ isM tk sz j ⟨#[44]⟩ = false)) (h : opIn (nxT tk sz j).t = some (p, l, r)) (hp : ¬ (most < p ∨ l < pr)) : infixC tk sz tm most (f + 1) t pr j ns = (tm r (j + 1) ns).andThen fun t2 j' ns' => infixC tk sz tm most f (twoT (nxT tk sz j).t t t2) p j' ns' := by
 rw [infixC]; rw [if_neg hn, h]; exact if_neg hp
end
def InfK (c : Rdc) (tm : Int → Nat → List ByteArray → PR T) (most : Int) (t : T) (pr : Int) (j : Nat) (ns : List ByteArray) (er' pl' : Int) (er pl : Int) (res : PR T) : Prop :=
 ∃ f, c.tn ≤ j + f ∧ ∀ er2 pl2 y, Sp er' pl' er2 pl2 (infixC c.tk c.s.size tm most f t pr j ns) y → Sp er pl er2 pl2 res y
theorem InfK.stop {c : Rdc} {tm : Int → Nat → List ByteArray → PR T} {most : Int} {t : T} {pr : Int} {j : Nat} {ns : List ByteArray} {pl' er pl : Int} {res : PR T} (h : InfK c tm most t pr j ns 0 pl' er pl res) (hs : ∀ f, infixC c.tk c.s.size tm most f t pr j ns = .ok (t, j, ns)) : Hid (Sp er pl 0 pl' res (t, j, ns)) := by
 obtain ⟨f, _, hK⟩ := h
 exact Lib.hid (hK _ _ _ (by rw [hs]; exact Sp.ok _ _ _))
set_option maxRecDepth 100000 in
set_option maxHeartbeats 8000000 in
theorem term_step (c : Rdc) (D : Nat) {tm : Int → Nat → List ByteArray → PR T} (IH : TermC c ((D : Int) + 1) tm) (hD : D ≤ 64) : TermC c (D : Int) (fun most i ns => (operandP c.tk c.s.size tm most i ns).andThen fun x j ns' => infixC c.tk c.s.size tm most c.tk.length x.1 x.2 j ns') := by
 intro most w i ns pl er h
 obtain ⟨RS, hRS⟩ : ∃ RS, RS = (operandP c.tk c.s.size tm most i ns).andThen fun x j ns' => infixC c.tk c.s.size tm most c.tk.length x.1 x.2 j ns' := ⟨_, rfl⟩
 have HRS := Lib.hid hRS
 show Calls _ _ _ _ fun e w' => ∃ v, e = .returned v ∧ RetT c w i i pl er ((operandP c.tk c.s.size tm most i ns).andThen fun x j ns' => infixC c.tk c.s.size tm most c.tk.length x.1 x.2 j ns') v w'
 rw [← hRS]
 clear hRS
 have hB := h.base
 have hBR := h.1.BR
 have hRw := h.lt
 have H := Lib.hid h
 have hd : ¬ (64 : Int) < (D : Int) := by omega
 obtain ⟨r2, r5, rf⟩ := h.cells
 clear h
 have H1 := Lib.hid (H.out.alloc (Obj.cells #[.int .i64 0, .int .i64 0, .string ⟨#[]⟩, .slice none 0 0] 39))
 have F1 := Lib.hid (Fr.of_below ((Below.refl w.heap.size w).alloc (Nat.le_refl _) (Obj.cells #[.int .i64 0, .int .i64 0, .string ⟨#[]⟩, .slice none 0 0] 39)) hB)
 by_cases he : er = 0
 ·subst he
  go_enter Tryz.func26, Tryz.ntmps26
  go_wp2_with fail
  refine (operand_any D IH hD most _ _ _ _ _ H1.out).mono ?_
  rintro e w1 ⟨v1, pr, rfl, j, er1, t, ns1, pl1, h1, f1, hj, ht, hok, hsp⟩
  have KK := Lib.hid (show InfK c tm most t pr j ns1 er1 pl1 0 pl RS from ⟨c.tk.length, by have := H.out.1.len; omega, fun er2 pl2 y hy => by rw [HRS.out]; exact hsp.out.bind hy⟩)
  have hag := ht.agg
  obtain ⟨a0, a1, a2, a3, a4, a5, rfl⟩ := hag
  have hs1 := f1.size
  have hE1 := f1.box H1.out (heap_alloc_new w (Obj.cells #[.int .i64 0, .int .i64 0, .string ⟨#[]⟩, .slice none 0 0] 39)) (by decide) (by decide)
  have hlt1 := heap_lt hE1
  have T1 : TermI c w i 0 (w1.alloc (Obj.cells #[.int .i64 a0, .int .i64 a1, .string a2, .slice a3 a4 a5] 39)) j er1 w1.heap.size t a0 a1 a2 a3 a4 a5 ns1 pl1 :=
   ⟨heap_alloc_new _ _, ((ht.old.below ((Below.refl _ _).alloc (Nat.le_refl _) _)).more fun b hb => by
    have h5 : (w.alloc (Obj.cells #[.int .i64 0, .int .i64 0, .string ⟨#[]⟩, .slice none 0 0] 39)).heap.size ≤ b := hb.1
    simp at h5
    have h6 := hb.2
    exact ⟨by omega, by omega⟩), (Below.heap_alloc _ _ _ hlt1).trans hE1, by omega, h1.alloc _, (F1.out.trans f1).trans (Fr.of_below ((Below.refl _ _).alloc (Nat.le_refl _) _) h1.base), hj, hok⟩
  have TT := Lib.hid T1
  clear T1 h1 f1 ht hok hE1 r2 r5 rf hsp
  go_wp2_with fail
  go_loopw [8] (fun pv wr => ∃ (pr : Int) (j : Nat) (er' : Int) (t : T) (a0 a1 : Int) (a2 : ByteArray) (a3 : Option Addr) (a4 a5 : Nat) (ns' : List ByteArray) (pl' : Int), pv = .int .i64 pr ∧ TermI c w i 0 wr j er' w1.heap.size t a0 a1 a2 a3 a4 a5 ns' pl' ∧ Hid (InfK c tm most t pr j ns' er' pl' 0 pl RS)) (fun _ wr => c.tn - atOf c wr)
  case atStart => exact ⟨_, _, _, _, _, _, _, _, _, _, _, _, rfl, TT.out, KK⟩
  case round =>
   clear TT KK
   obtain ⟨pr, j, er', t, a0, a1, a2, a3, a4, a5, ns', pl', rfl, ht, hk⟩ := hrel
   have TI := Lib.hid ht
   clear ht
   obtain ⟨r2, r5, rf⟩ := TI.out.rd.cells
   have hgl := heap_lt TI.out.box
   have hrl := heap_lt TI.out.res
   have hRl := TI.out.rd.lt
   by_cases he : er' = 0
   ·subst he
    have hxs := nx_size TI.out.rd
    have hxl : (nx c j).k ≠ 0 → j < c.tn := fun e => nx_lt TI.out.rd e
    go_wp2_with fail
    refine (next_any _ TI.out.rd).mono ?_
    rintro e w2 ⟨rfl, h2⟩
    have T2 := Lib.hid (TI.out.stand (Fr.of_below h2 TI.out.rd.base) (TI.out.rd.below h2) (Nat.le_refl _) id)
    have B3 := Lib.hid ((Below.refl w2.heap.size w2).alloc (Nat.le_refl _) (Obj.cells #[.int .i64 (nx c j).k, .string (nx c j).t, .int .i64 ((nx c j).a : Int), .int .i64 ((nx c j).b : Int)] 83))
    have T3 := Lib.hid (T2.out.stand (Fr.of_below B3.out T2.out.rd.base) (T2.out.rd.below B3.out) (Nat.le_refl _) id)
    clear h2 r2 r5 rf
    go_upto_region 8 with fail
    go_cut [55] (fun s55 wx => ∃ bb : Bool, s55 = .bool bb ∧ (bb = false → (nx c j).k ≠ 0) ∧ Hid (bb = true ↔ ((nxT c.tk c.s.size j).k ≠ 1 ∧ isM c.tk c.s.size j ⟨#[44]⟩ = false)) ∧ Below (w2.heap.size + 1) (w2.alloc (Obj.cells #[.int .i64 (nx c j).k, .string (nx c j).t, .int .i64 ((nx c j).a : Int), .int .i64 ((nx c j).b : Int)] 83)) wx)
    case first =>
     cases hk1 : ((nx c j).k != 1) with
     | false =>
      go_wp2_with fail
      go_meet
      case rel => exact ⟨false, rfl, (fun _ => by simp at hk1; omega), Lib.hid ⟨(fun h => by cases h), fun h => by
       have h9 : (nx c j).k ≠ 1 := h.1
       simp at hk1
       exact absurd hk1 h9⟩, Below.refl _ _⟩
     | true =>
      go_wp2_with fail
      refine (mark_any _ _ T3.out.rd).mono ?_
      rintro e w3 ⟨⟨b, rfl, hbm, hM⟩, h3⟩
      go_wp2_with fail
      go_meet
      case rel => exact ⟨!b, rfl, (fun e => by rw [hbm (by cases b with | true => rfl | false => cases e)]; decide), Lib.hid ⟨fun h => ⟨(show (nx c j).k ≠ 1 by simpa using hk1), by rw [hM.out]; simpa using h⟩, fun h => by rw [← hM.out, h.2]; rfl⟩, h3.mono (by simp)⟩
    case rest =>
     obtain ⟨bb, rfl, hbb, hbi, hwc⟩ := hcut
     have T4 := Lib.hid (T3.out.stand (Fr.of_below (hwc.mono (by simp)) T3.out.rd.base) (T3.out.rd.below (hwc.mono (by simp))) (Nat.le_refl _) id)
     have hX4 := Lib.hid ((hwc.block w2.heap.size (by omega)).trans (heap_alloc_new w2 (Obj.cells #[.int .i64 (nx c j).k, .string (nx c j).t, .int .i64 ((nx c j).a : Int), .int .i64 ((nx c j).b : Int)] 83)))
     clear hwc
     cases bb with
     | true =>
      have bf : ∀ j, wc.frozen? ⟨w.heap.size, j, none⟩ = false := fun j => by simp [World.frozen?, T4.out.res]
      obtain ⟨y0, y1, y2, y3⟩ := box4t T4.out.box
      obtain ⟨x0, x1, x2, x3⟩ := box4t T4.out.res
      go_wp2_with fail
      obtain ⟨p0, p1, p2, p3⟩ := box4t (box_put4 T4.out.res (.int .i64 a0) (.int .i64 a1) (.string a2) (.slice a3 a4 a5) rfl).1
      refine bodyPost_ret (v := .agg #[.int .i64 a0, .int .i64 a1, .string a2, .slice a3 a4 a5]) (by simp [results, go_sem, p0, p1, p2, p3]) rfl ?_
      exact ⟨_, rfl, ret_box T4.out.rd T4.out.fr hB T4.out.res (Nat.le_refl _) (T4.out.ht.more fun b hb => ⟨by omega, by omega⟩) T4.out.lo T4.out.ok (hk.out.stop fun f => infix_no (hbi.out.1 (by trivial)))⟩
     | false =>
      have hlt := hxl (hbb rfl)
      clear hbb
      obtain ⟨z0, z1, z2, z3⟩ := box4t hX4.out
      go_wp2_with fail
      refine (infix_any (nx c j).t _).mono ?_
      rintro e w5 ⟨⟨p, l, r, is, rfl, hOp⟩, h5⟩
      have T5 := Lib.hid (T4.out.stand (Fr.of_below h5 T4.out.rd.base) (T4.out.rd.below h5) (Nat.le_refl _) id)
      have hX5 := Lib.hid ((h5.block _ (heap_lt hX4.out)).trans hX4.out)
      clear h5 z0 z1 z2 z3
      cases is with
      | false =>
       have bf : ∀ j, w5.frozen? ⟨w.heap.size, j, none⟩ = false := fun j => by simp [World.frozen?, T5.out.res]
       obtain ⟨y0, y1, y2, y3⟩ := box4t T5.out.box
       obtain ⟨x0, x1, x2, x3⟩ := box4t T5.out.res
       go_wp2_with fail
       obtain ⟨p0, p1, p2, p3⟩ := box4t (box_put4 T5.out.res (.int .i64 a0) (.int .i64 a1) (.string a2) (.slice a3 a4 a5) rfl).1
       refine bodyPost_ret (v := .agg #[.int .i64 a0, .int .i64 a1, .string a2, .slice a3 a4 a5]) (by simp [results, go_sem, p0, p1, p2, p3]) rfl ?_
       exact ⟨_, rfl, ret_box T5.out.rd T5.out.fr hB T5.out.res (Nat.le_refl _) (T5.out.ht.more fun b hb => ⟨by omega, by omega⟩) T5.out.lo T5.out.ok (hk.out.stop fun f => infix_none (show opIn (nxT c.tk c.s.size j).t = none from hOp.out))⟩
      | true =>
       by_cases hpm : most < p
       ·have HPM := Lib.hid hpm
        have bf : ∀ j, w5.frozen? ⟨w.heap.size, j, none⟩ = false := fun j => by simp [World.frozen?, T5.out.res]
        obtain ⟨y0, y1, y2, y3⟩ := box4t T5.out.box
        obtain ⟨x0, x1, x2, x3⟩ := box4t T5.out.res
        go_wp2_with fail
        obtain ⟨p0, p1, p2, p3⟩ := box4t (box_put4 T5.out.res (.int .i64 a0) (.int .i64 a1) (.string a2) (.slice a3 a4 a5) rfl).1
        refine bodyPost_ret (v := .agg #[.int .i64 a0, .int .i64 a1, .string a2, .slice a3 a4 a5]) (by simp [results, go_sem, p0, p1, p2, p3]) rfl ?_
        exact ⟨_, rfl, ret_box T5.out.rd T5.out.fr hB T5.out.res (Nat.le_refl _) (T5.out.ht.more fun b hb => ⟨by omega, by omega⟩) T5.out.lo T5.out.ok (hk.out.stop fun f => infix_low (show opIn (nxT c.tk c.s.size j).t = some (p, l, r) from hOp.out) (.inl HPM.out))⟩
       ·by_cases hlp : l < pr
        ·have HLP := Lib.hid hlp
         have bf : ∀ j, w5.frozen? ⟨w.heap.size, j, none⟩ = false := fun j => by simp [World.frozen?, T5.out.res]
         obtain ⟨y0, y1, y2, y3⟩ := box4t T5.out.box
         obtain ⟨x0, x1, x2, x3⟩ := box4t T5.out.res
         go_wp2_with fail
         obtain ⟨p0, p1, p2, p3⟩ := box4t (box_put4 T5.out.res (.int .i64 a0) (.int .i64 a1) (.string a2) (.slice a3 a4 a5) rfl).1
         refine bodyPost_ret (v := .agg #[.int .i64 a0, .int .i64 a1, .string a2, .slice a3 a4 a5]) (by simp [results, go_sem, p0, p1, p2, p3]) rfl ?_
         exact ⟨_, rfl, ret_box T5.out.rd T5.out.fr hB T5.out.res (Nat.le_refl _) (T5.out.ht.more fun b hb => ⟨by omega, by omega⟩) T5.out.lo T5.out.ok (hk.out.stop fun f => infix_low (show opIn (nxT c.tk c.s.size j).t = some (p, l, r) from hOp.out) (.inr HLP.out))⟩
        ·have HGO := Lib.hid (show ¬ ((nxT c.tk c.s.size j).k ≠ 1 ∧ isM c.tk c.s.size j ⟨#[44]⟩ = false) from fun h => by cases hbi.out.2 h)
         have HNP := Lib.hid (show ¬ (most < p ∨ l < pr) by omega)
         have r6 := T5.out.rd.cells
         obtain ⟨r2, r5, rf⟩ := r6
         obtain ⟨hup, htn⟩ := T5.out.rd.up
         have T6 := Lib.hid (T5.out.stand (Fr.setR hBR 2 (.int .i64 ((j : Int) + 1))) (T5.out.rd.next hlt) (by omega) id)
         have G6 := Lib.hid (Fr.setR (c := c) (w := w5) hBR 2 (.int .i64 ((j : Int) + 1)))
         have hX6 := Lib.hid (G6.out.box T5.out.rd hX5.out (by decide) (by decide))
         have hwr : IntKind.i64.wrap ((D : Int) + 1) = (D : Int) + 1 := by
          rw [IntKind.wrap_i64]
          omega
         go_wp2_with fail
         generalize w5.setCell ⟨c.R, 2, none⟩ (.int .i64 ((j : Int) + 1)) = w6 at *
         clear r2 r5 rf T4 hX4 T3 T2 B3 H H1 F1 hd
         obtain ⟨z0, z1, z2, z3⟩ := box4t hX6.out
         obtain ⟨y0, y1, y2, y3⟩ := box4t T6.out.box
         have hgl6 := heap_lt T6.out.box
         have hXl6 := heap_lt hX6.out
         have hgt6 := T6.out.hgt
         have HD := Lib.hid (T6.out.rd.below ((Below.refl w6.heap.size w6).drew))
         go_region_with (first
          | (go_at_call 26; refine (IH r _ _ _ _ _ HD.out).mono ?_; rintro e w8 ⟨v8, rfl, j8, er8, t8, ns8, pl8, h8, f8, hj8, ht8, hok8, hs8x⟩; have hag := ht8.agg; obtain ⟨k0, k1, k2, A0, m0, c0, rfl⟩ := hag; have f8' := (Fr.of_below ((Below.refl w6.heap.size w6).drew) T6.out.rd.base).trans f8; have hX8 := f8'.box T6.out.rd hX6.out (by decide) (by decide); have hG8 := f8'.box T6.out.rd T6.out.box (by decide) (by decide); obtain ⟨z0, z1, z2, z3⟩ := box4t hX8; obtain ⟨y0, y1, y2, y3⟩ := box4t hG8)
          | (go_at_call 53; refine (two_tp (nx c j).t (fun b => w.heap.size + 1 ≤ b ∧ b ≠ w1.heap.size) t t8 _ _ _ (T6.out.ht.fr f8' T6.out.rd) (ht8.more fun b hb => by have h9 : w6.heap.size ≤ b := hb; exact ⟨by omega, by omega⟩)).mono ?_; rintro e w9 ⟨⟨v9, rfl, hv9⟩, h9⟩; have hv10 := hv9; obtain ⟨A9, c9, rfl, _⟩ := hv10; have hG9 := (h9.block _ (heap_lt hG8)).trans hG8; have bf : ∀ j, w9.frozen? ⟨w1.heap.size, j, none⟩ = false := (fun j => by simp [World.frozen?, hG9]); obtain ⟨x0, x1, x2, x3⟩ := box4t hG9))
         all_goals
          have SS := Lib.hid (TermI.two T5.out hB hxs (G6.out.trans f8') h8 hj8 (fun e => (hok8 e).2) h9 hv9)
          have KK := Lib.hid (show InfK c tm most (twoT (nx c j).t t t8) p j8 ns8 er8 pl8 0 pl RS by
           obtain ⟨f, hf, hK⟩ := hk.out
           obtain ⟨f, rfl⟩ : ∃ k, f = k + 1 := ⟨f - 1, by omega⟩
           refine ⟨f, by omega, fun er2 pl2 y hy => hK _ _ _ ?_⟩
           rw [infix_go HGO.out (show opIn (nxT c.tk c.s.size j).t = some (p, l, r) from hOp.out) HNP.out]
           exact hs8x.out.bind hy)
          clear h8 f8 ht8 hok8 h9 hv9
          go_wp2_with fail
          go_roundw
          ·exact ⟨_, _, _, _, _, _, _, _, _, _, _, _, rfl, SS.out, KK⟩
          ·rw [SS.out.rd.at_eq, TI.out.rd.at_eq]; omega
   ·have he1 : (er' == 0) = false := by simpa using he
    have bf : ∀ j, wr.frozen? ⟨w.heap.size, j, none⟩ = false := fun j => by simp [World.frozen?, TI.out.res]
    obtain ⟨y0, y1, y2, y3⟩ := box4t TI.out.box
    obtain ⟨x0, x1, x2, x3⟩ := box4t TI.out.res
    go_wp2_with fail
    obtain ⟨p0, p1, p2, p3⟩ := box4t (box_put4 TI.out.res (.int .i64 a0) (.int .i64 a1) (.string a2) (.slice a3 a4 a5) rfl).1
    refine bodyPost_ret (v := .agg #[.int .i64 a0, .int .i64 a1, .string a2, .slice a3 a4 a5]) (by simp [results, go_sem, p0, p1, p2, p3]) rfl ?_
    exact ⟨_, rfl, ret_box TI.out.rd TI.out.fr hB TI.out.res (Nat.le_refl _) (TI.out.ht.more fun b hb => ⟨by omega, by omega⟩) TI.out.lo TI.out.ok (by
     obtain ⟨f, _, hK⟩ := hk.out
     exact Lib.hid (hK _ _ _ (Sp.stays he _ _)))⟩
 ·have he1 : (er == 0) = false := by simpa using he
  have he2 : (er != 0) = true := by simpa using he
  go_enter Tryz.func26, Tryz.ntmps26
  go_wp2_with fail
  refine bodyPost_ret (v := .agg #[.int .i64 0, .int .i64 0, .string ⟨#[]⟩, .slice none 0 0]) (by simp [results, go_sem]) rfl ?_
  exact ⟨_, rfl, nil_ret H1.out F1.out (Nat.le_refl _) he (Sp.stays he _ _)⟩
end Go.Proofs.YtibcpdmeigdgpaaGreatDoor
