/- The reference's parser: an operand. -/
import Derived.Test.YtibcpdmeigdgpaaGreatDoorKRd10
namespace Go.Proofs.YtibcpdmeigdgpaaGreatDoor
open Go.RowKit
theorem RdV.below {w w' : World} {c : Rdc} {i : Nat} {ns : List ByteArray} {pl er : Int} (h : RdV w c i ns pl er) (hb : Below w.heap.size w w') : RdV w' c i ns pl er := by
 obtain ⟨ht, nv, nn, hr, hn⟩ := h
 exact ⟨ht.below hb, nv, nn, hr.below hb, hn⟩
section
variable {tk : List Tk} {sz : Nat} {tm : Int → Nat → List ByteArray → PR T} {most : Int} {i : Nat} {ns : List ByteArray}
theorem op_int (h3 : ((nxT tk sz i).k == 3) = true) : operandP tk sz tm most i ns = (intP (nxT tk sz i) false (i + 1) ns).andThen fun r j ns1 => .ok ((r, 0), j, ns1) := by
 unfold operandP; dsimp only; rw [if_pos (by simpa using h3)]
theorem op_var (h3 : ((nxT tk sz i).k == 3) = false) (h2 : ((nxT tk sz i).k == 2) = true) : operandP tk sz tm most i ns = .ok ((vrT (varN (nxT tk sz i).t ns).1, 0), i + 1, (varN (nxT tk sz i).t ns).2) := by
 unfold operandP; dsimp only; rw [if_neg (by simpa using h3), if_pos (by simpa using h2)]
theorem op_open (h3 : ((nxT tk sz i).k == 3) = false) (h2 : ((nxT tk sz i).k == 2) = false) (h4 : (nxT tk sz i).k = 4 ∨ isM tk sz i ⟨#[40]⟩ = true) : operandP tk sz tm most i ns = (tm 1200 (i + 1) ns).andThen fun r j ns1 => mustN tk sz ⟨#[41]⟩ (r, 0) j ns1 := by
 unfold operandP; dsimp only; rw [if_neg (by simpa using h3), if_neg (by simpa using h2), if_pos h4]
theorem op_list (h3 : ((nxT tk sz i).k == 3) = false) (h2 : ((nxT tk sz i).k == 2) = false) (h4 : ((nxT tk sz i).k == 4) = false) (m1 : isM tk sz i ⟨#[40]⟩ = false) (m2 : isM tk sz i ⟨#[91]⟩ = true) : operandP tk sz tm most i ns = (listP tk sz tm (i + 1) ns).andThen fun r j ns1 => .ok ((r, 0), j, ns1) := by
 unfold operandP; dsimp only; rw [if_neg (by simpa using h3), if_neg (by simpa using h2), if_neg (by rw [m1]; simpa using h4), if_pos m2]
theorem op_cur0 (h3 : ((nxT tk sz i).k == 3) = false) (h2 : ((nxT tk sz i).k == 2) = false) (h4 : ((nxT tk sz i).k == 4) = false) (m1 : isM tk sz i ⟨#[40]⟩ = false) (m2 : isM tk sz i ⟨#[91]⟩ = false) (m3 : isM tk sz i ⟨#[123]⟩ = true) (m4 : isM tk sz (i + 1) ⟨#[125]⟩ = true) : operandP tk sz tm most i ns = .ok ((atT curS, 0), i + 2, ns) := by
 unfold operandP; dsimp only; rw [if_neg (by simpa using h3), if_neg (by simpa using h2), if_neg (by rw [m1]; simpa using h4), if_neg (by rw [m2]; decide), if_pos m3, if_pos m4]
theorem op_cur (h3 : ((nxT tk sz i).k == 3) = false) (h2 : ((nxT tk sz i).k == 2) = false) (h4 : ((nxT tk sz i).k == 4) = false) (m1 : isM tk sz i ⟨#[40]⟩ = false) (m2 : isM tk sz i ⟨#[91]⟩ = false) (m3 : isM tk sz i ⟨#[123]⟩ = true) (m4 : isM tk sz (i + 1) ⟨#[125]⟩ = false) : operandP tk sz tm most i ns = (tm 1200 (i + 1) ns).andThen fun r j ns1 => mustN tk sz ⟨#[125]⟩ (oneT curS r, 0) j ns1 := by
 unfold operandP; dsimp only; rw [if_neg (by simpa using h3), if_neg (by simpa using h2), if_neg (by rw [m1]; simpa using h4), if_neg (by rw [m2]; decide), if_pos m3, if_neg (by rw [m4]; decide)]
theorem op_named (h3 : ((nxT tk sz i).k == 3) = false) (h2 : ((nxT tk sz i).k == 2) = false) (h4 : ((nxT tk sz i).k == 4) = false) (m1 : isM tk sz i ⟨#[40]⟩ = false) (m2 : isM tk sz i ⟨#[91]⟩ = false) (m3 : isM tk sz i ⟨#[123]⟩ = false) (h1 : ((nxT tk sz i).k == 1) = true) : operandP tk sz tm most i ns = namedP tk sz tm (nxT tk sz i) most (i + 1) ns := by
 unfold operandP; dsimp only; rw [if_neg (by simpa using h3), if_neg (by simpa using h2), if_neg (by rw [m1]; simpa using h4), if_neg (by rw [m2]; decide), if_neg (by rw [m3]; decide), if_pos (by simpa using h1)]
theorem op_wrong (h3 : ((nxT tk sz i).k == 3) = false) (h2 : ((nxT tk sz i).k == 2) = false) (h4 : ((nxT tk sz i).k == 4) = false) (m1 : isM tk sz i ⟨#[40]⟩ = false) (m2 : isM tk sz i ⟨#[91]⟩ = false) (m3 : isM tk sz i ⟨#[123]⟩ = false) (h1 : ((nxT tk sz i).k == 1) = false) : operandP tk sz tm most i ns = .error (errA tk sz i 50) := by
 unfold operandP; dsimp only; rw [if_neg (by simpa using h3), if_neg (by simpa using h2), if_neg (by rw [m1]; simpa using h4), if_neg (by rw [m2]; decide), if_neg (by rw [m3]; decide), if_neg (by simpa using h1)]
end
set_option maxRecDepth 100000 in
set_option maxHeartbeats 8000000 in
theorem operand_any {c : Rdc} (D : Nat) {tm : Int → Nat → List ByteArray → PR T} (IH : TermC c ((D : Int) + 1) tm) (hD : D ≤ 64) (most : Int) (w : World) (i : Nat) (ns : List ByteArray) (pl er : Int) (h : Rd w c i ns pl er) :
 Calls Tryz.prog 50 #[.pointer (some ⟨c.R, 0, none⟩), .int .i64 most, .int .i64 (D : Int)] w fun e w' =>
  ∃ v p, e = .returned (.tuple #[v, .int .i64 p]) ∧ RetP c w i i pl er (operandP c.tk c.s.size tm most i ns) v p w' := by
 have hB := h.base
 have hBR := h.1.BR
 have hRw := h.lt
 have hxs := nx_size h
 have hxl : (nx c i).k ≠ 0 → i < c.tn := fun e => nx_lt h e
 have H := Lib.hid h
 clear h
 go_enter Tryz.func50, Tryz.ntmps50
 go_wp2_with fail
 refine (next_any _ (H.out.alloc (Obj.cells #[.int .i64 0, .int .i64 0, .string ⟨#[]⟩, .slice none 0 0] 39))).mono ?_
 rintro e w2 ⟨rfl, h2⟩
 have B2 := Lib.hid (((Below.refl w.heap.size w).alloc (Nat.le_refl _) (Obj.cells #[.int .i64 0, .int .i64 0, .string ⟨#[]⟩, .slice none 0 0] 39)).trans (h2.mono (by simp)))
 have H2 := Lib.hid (H.out.below B2.out)
 have F2 := Lib.hid (Fr.of_below B2.out hB)
 have hE2 := Lib.hid ((h2.block w.heap.size (by simp)).trans (heap_alloc_new w (Obj.cells #[.int .i64 0, .int .i64 0, .string ⟨#[]⟩, .slice none 0 0] 39)))
 have hs2 : w.heap.size < w2.heap.size := heap_lt hE2.out
 have hR2 : c.R < w2.heap.size := by omega
 clear h2
 obtain ⟨r2, r5, rf⟩ := H2.out.cells
 obtain ⟨hup, htn⟩ := H2.out.up
 have AX := Lib.hid ((Below.refl w2.heap.size w2).alloc (Nat.le_refl _) (Obj.cells #[.int .i64 (nx c i).k, .string (nx c i).t, .int .i64 ((nx c i).a : Int), .int .i64 ((nx c i).b : Int)] 83))
 cases hk : ((nx c i).k == 3) with
 | true =>
  have hlt := hxl (by simp at hk; omega)
  have I4 := Lib.hid ((H2.out.next hlt).alloc (Obj.cells #[.int .i64 (nx c i).k, .string (nx c i).t, .int .i64 ((nx c i).a : Int), .int .i64 ((nx c i).b : Int)] 83))
  have G4 := Lib.hid ((Fr.setR (c := c) (w := w2) hBR 2 (.int .i64 ((i : Int) + 1))).trans (Fr.of_below ((Below.refl _ _).alloc (Nat.le_refl _) (Obj.cells #[.int .i64 (nx c i).k, .string (nx c i).t, .int .i64 ((nx c i).a : Int), .int .i64 ((nx c i).b : Int)] 83)) (H2.out.next hlt).base))
  have J4 := Lib.hid (F2.out.trans G4.out)
  have hEi4 := Lib.hid (G4.out.box H2.out hE2.out (by decide) (by decide))
  go_wp2_with fail
  have OP := Lib.hid (op_int (tm := tm) (most := most) (ns := ns) (tk := c.tk) (sz := c.s.size) hk)
  refine (integer_any (i0 := i) (nx c i) false _ I4.out hxs.1 (by omega)).mono ?_
  rintro e w5 ⟨v5, rfl, j5, er5, t5, ns5, pl5, h5, f5, hj5, ht5, hok5, hsp⟩
  have hag := ht5.agg
  obtain ⟨k0, k1, k2, A0, m0, c0, rfl⟩ := hag
  have hE5 := Lib.hid (f5.box I4.out hEi4.out (by decide) (by decide))
  have H5 := Lib.hid h5
  have hsf := J4.out.size
  have hsl := heap_lt hEi4.out
  have F5 := Lib.hid (J4.out.trans f5)
  have HT5 := Lib.hid ht5
  have HO := Lib.hid hok5
  have hj6 : i ≤ j5 := by omega
  clear h5 f5 ht5 hok5 hj5 r2 r5 rf
  have bf : ∀ j, w5.frozen? ⟨w.heap.size, j, none⟩ = false := fun j => by simp [World.frozen?, hE5.out]
  obtain ⟨x0, x1, x2, x3⟩ := box4t hE5.out
  go_wp2_with fail
  obtain ⟨p0, p1, p2, p3⟩ := box4t (box_put4 hE5.out (.int .i64 k0) (.int .i64 k1) (.string k2) (.slice A0 m0 c0) rfl).1
  refine bodyPost_ret (v := .tuple #[.agg #[.int .i64 k0, .int .i64 k1, .string k2, .slice A0 m0 c0], .int .i64 0]) (by simp [results, go_sem, p0, p1, p2, p3]) rfl ?_
  exact ⟨_, 0, rfl, ret_boxP H5.out F5.out hB hE5.out (Nat.le_refl _) (HT5.out.more fun b hb => by simp at hb; exact ⟨by omega, by omega⟩) hj6 HO.out (Lib.hid (by rw [OP.out]; exact hsp.out.bindOk fun r => (r, (0 : Int))))⟩
 | false =>
  have hk3 := hk
  have K3 := Lib.hid (show ((nxT c.tk c.s.size i).k == 3) = false from hk)
  clear hk
  cases hk : ((nx c i).k == 2) with
  | true =>
   have hlt := hxl (by simp at hk; omega)
   have I4 := Lib.hid ((H2.out.next hlt).alloc (Obj.cells #[.int .i64 (nx c i).k, .string (nx c i).t, .int .i64 ((nx c i).a : Int), .int .i64 ((nx c i).b : Int)] 83))
   have G4 := Lib.hid ((Fr.setR (c := c) (w := w2) hBR 2 (.int .i64 ((i : Int) + 1))).trans (Fr.of_below ((Below.refl _ _).alloc (Nat.le_refl _) (Obj.cells #[.int .i64 (nx c i).k, .string (nx c i).t, .int .i64 ((nx c i).a : Int), .int .i64 ((nx c i).b : Int)] 83)) (H2.out.next hlt).base))
   have J4 := Lib.hid (F2.out.trans G4.out)
   have hEi4 := Lib.hid (G4.out.box H2.out hE2.out (by decide) (by decide))
   have V4 := Lib.hid ((H2.out.nextV hlt).below ((Below.refl _ _).alloc (Nat.le_refl _) (Obj.cells #[.int .i64 (nx c i).k, .string (nx c i).t, .int .i64 ((nx c i).a : Int), .int .i64 ((nx c i).b : Int)] 83)))
   go_wp2_with fail
   have OP := Lib.hid (op_var (tm := tm) (most := most) (ns := ns) (tk := c.tk) (sz := c.s.size) K3.out hk)
   refine (variable_any (nx c i).t _ V4.out).mono ?_
   rintro e w5 ⟨v5, rfl, j5, er5, t5, ns5, pl5, h5, f5, hj5, ht5, hok5, hsp⟩
   have hag := ht5.agg
   obtain ⟨k0, k1, k2, A0, m0, c0, rfl⟩ := hag
   have hE5 := Lib.hid (f5.box I4.out hEi4.out (by decide) (by decide))
   have H5 := Lib.hid h5
   have hsf := J4.out.size
   have hsl := heap_lt hEi4.out
   have F5 := Lib.hid (J4.out.trans f5)
   have HT5 := Lib.hid ht5
   have HO := Lib.hid hok5
   have hj6 : i ≤ j5 := by omega
   clear h5 f5 ht5 hok5 hj5 r2 r5 rf
   have bf : ∀ j, w5.frozen? ⟨w.heap.size, j, none⟩ = false := fun j => by simp [World.frozen?, hE5.out]
   obtain ⟨x0, x1, x2, x3⟩ := box4t hE5.out
   go_wp2_with fail
   obtain ⟨p0, p1, p2, p3⟩ := box4t (box_put4 hE5.out (.int .i64 k0) (.int .i64 k1) (.string k2) (.slice A0 m0 c0) rfl).1
   refine bodyPost_ret (v := .tuple #[.agg #[.int .i64 k0, .int .i64 k1, .string k2, .slice A0 m0 c0], .int .i64 0]) (by simp [results, go_sem, p0, p1, p2, p3]) rfl ?_
   exact ⟨_, 0, rfl, ret_boxP H5.out F5.out hB hE5.out (Nat.le_refl _) (HT5.out.more fun b hb => by simp at hb; exact ⟨by omega, by omega⟩) hj6 HO.out (Lib.hid (by rw [OP.out]; exact hsp.out.bindOk fun r => (r, (0 : Int))))⟩
  | false =>
   have hk2 := hk
   have K2 := Lib.hid (show ((nxT c.tk c.s.size i).k == 2) = false from hk)
   clear hk
   cases hk : ((nx c i).k == 4) with
   | true =>
    have hlt := hxl (by simp at hk; omega)
    have I4 := Lib.hid ((H2.out.next hlt).alloc (Obj.cells #[.int .i64 (nx c i).k, .string (nx c i).t, .int .i64 ((nx c i).a : Int), .int .i64 ((nx c i).b : Int)] 83))
    have G4 := Lib.hid ((Fr.setR (c := c) (w := w2) hBR 2 (.int .i64 ((i : Int) + 1))).trans (Fr.of_below ((Below.refl _ _).alloc (Nat.le_refl _) (Obj.cells #[.int .i64 (nx c i).k, .string (nx c i).t, .int .i64 ((nx c i).a : Int), .int .i64 ((nx c i).b : Int)] 83)) (H2.out.next hlt).base))
    have J4 := Lib.hid (F2.out.trans G4.out)
    have hEi4 := Lib.hid (G4.out.box H2.out hE2.out (by decide) (by decide))
    go_wp2_with fail
    have OP := Lib.hid (op_open (tm := tm) (most := most) (ns := ns) (tk := c.tk) (sz := c.s.size) K3.out K2.out (.inl (by have h9 : ((nxT c.tk c.s.size i).k == 4) = true := hk; simpa using h9)))
    refine (IH 1200 _ _ _ _ _ I4.out).mono ?_
    rintro e w4 ⟨v5, rfl, j4, er4, t5, ns4, pl4, h4, f4, hj4, ht4, hok4, hsp⟩
    have hag := ht4.agg
    obtain ⟨k0, k1, k2, A0, m0, c0, rfl⟩ := hag
    have hE4 := f4.box I4.out hEi4.out (by decide) (by decide)
    have hsf := J4.out.size
    have hsl := heap_lt hEi4.out
    have BB := Lib.hid ((Below.refl w4.heap.size w4).alloc (Nat.le_refl _) (Obj.cells #[.int .i64 k0, .int .i64 k1, .string k2, .slice A0 m0 c0] 39))
    have HA := Lib.hid (h4.below BB.out)
    have FA := Lib.hid ((J4.out.trans f4).trans (Fr.of_below BB.out h4.base))
    have hEA := Lib.hid ((BB.out.block _ (heap_lt hE4)).trans hE4)
    have hBA := Lib.hid (heap_alloc_new w4 (Obj.cells #[.int .i64 k0, .int .i64 k1, .string k2, .slice A0 m0 c0] 39))
    have HTA := Lib.hid (ht4.below BB.out)
    have HO := Lib.hid hok4
    clear h4 f4 ht4 hok4 hE4 r2 r5 rf
    go_wp2_with fail
    refine (rmust_any _ _ HA.out).mono ?_
    rintro e w5 ⟨rfl, ⟨j5, er5, pl5, h5, hj5, he5, hs5x⟩, f5⟩
    have H5 := Lib.hid h5
    have F5 := Lib.hid (FA.out.trans f5)
    have hE5 := Lib.hid (f5.box HA.out hEA.out (by decide) (by decide))
    have hB5 := f5.box HA.out hBA.out (by decide) (by decide)
    have HT5 := Lib.hid (HTA.out.fr f5 HA.out)
    have HE := Lib.hid he5
    obtain ⟨y0, y1, y2, y3⟩ := box4t hB5
    clear h5 f5 he5 hB5
    have bf : ∀ j, w5.frozen? ⟨w.heap.size, j, none⟩ = false := fun j => by simp [World.frozen?, hE5.out]
    obtain ⟨x0, x1, x2, x3⟩ := box4t hE5.out
    go_wp2_with fail
    obtain ⟨p0, p1, p2, p3⟩ := box4t (box_put4 hE5.out (.int .i64 k0) (.int .i64 k1) (.string k2) (.slice A0 m0 c0) rfl).1
    refine bodyPost_ret (v := .tuple #[.agg #[.int .i64 k0, .int .i64 k1, .string k2, .slice A0 m0 c0], .int .i64 0]) (by simp [results, go_sem, p0, p1, p2, p3]) rfl ?_
    exact ⟨_, 0, rfl, ret_boxP H5.out F5.out hB hE5.out (Nat.le_refl _) (HT5.out.more fun b hb => by have hb2 := hb; simp at hb2; exact ⟨by omega, by omega⟩) (by omega) (fun e => by
     obtain ⟨e1, e2⟩ := HE.out e
     obtain ⟨g0, g1, g2⟩ := HO.out e1
     exact ⟨g0, g1, by omega⟩) (Lib.hid (by rw [OP.out]; exact hsp.out.bind (hs5x.out.must (t5, (0 : Int)))))⟩
   | false =>
    have hk4 := hk
    have K4 := Lib.hid (show ((nxT c.tk c.s.size i).k == 4) = false from hk)
    clear hk
    have H6 := Lib.hid (H2.out.below AX.out)
    have F6 := Lib.hid (F2.out.trans (Fr.of_below AX.out H2.out.base))
    have hE6 := Lib.hid ((AX.out.block _ (heap_lt hE2.out)).trans hE2.out)
    have hX6 := Lib.hid (heap_alloc_new w2 (Obj.cells #[.int .i64 (nx c i).k, .string (nx c i).t, .int .i64 ((nx c i).a : Int), .int .i64 ((nx c i).b : Int)] 83))
    obtain ⟨t0, t1, t2, t3⟩ := box4t hX6.out
    go_wp2_with fail
    refine (mark_any _ _ H6.out).mono ?_
    rintro e w7 ⟨⟨b7, rfl, hbm, hM1⟩, h7⟩
    have H7 := Lib.hid (H6.out.below h7)
    have F7 := Lib.hid (F6.out.trans (Fr.of_below h7 H6.out.base))
    have hE7 := Lib.hid ((h7.block _ (heap_lt hE6.out)).trans hE6.out)
    have hX7 := Lib.hid ((h7.block _ (heap_lt hX6.out)).trans hX6.out)
    obtain ⟨t0, t1, t2, t3⟩ := box4t hX7.out
    clear h7
    cases b7 with
    | true =>
     have hlt := hxl (by rw [hbm rfl]; decide)
     obtain ⟨r2, r5, rf⟩ := H7.out.cells
     have I7 := Lib.hid (H7.out.next hlt)
     have G7 := Lib.hid (Fr.setR (c := c) (w := w7) hBR 2 (.int .i64 ((i : Int) + 1)))
     have J7 := Lib.hid (F7.out.trans G7.out)
     have hEi7 := Lib.hid (G7.out.box H7.out hE7.out (by decide) (by decide))
     go_wp2_with fail
     have OP := Lib.hid (op_open (tm := tm) (most := most) (ns := ns) (tk := c.tk) (sz := c.s.size) K3.out K2.out (.inr hM1.out))
     refine (IH 1200 _ _ _ _ _ I7.out).mono ?_
     rintro e w4 ⟨v5, rfl, j4, er4, t5, ns4, pl4, h4, f4, hj4, ht4, hok4, hsp⟩
     have hag := ht4.agg
     obtain ⟨k0, k1, k2, A0, m0, c0, rfl⟩ := hag
     have hE4 := f4.box I7.out hEi7.out (by decide) (by decide)
     have hsf := J7.out.size
     have hsl := heap_lt hEi7.out
     have BB := Lib.hid ((Below.refl w4.heap.size w4).alloc (Nat.le_refl _) (Obj.cells #[.int .i64 k0, .int .i64 k1, .string k2, .slice A0 m0 c0] 39))
     have HA := Lib.hid (h4.below BB.out)
     have FA := Lib.hid ((J7.out.trans f4).trans (Fr.of_below BB.out h4.base))
     have hEA := Lib.hid ((BB.out.block _ (heap_lt hE4)).trans hE4)
     have hBA := Lib.hid (heap_alloc_new w4 (Obj.cells #[.int .i64 k0, .int .i64 k1, .string k2, .slice A0 m0 c0] 39))
     have HTA := Lib.hid (ht4.below BB.out)
     have HO := Lib.hid hok4
     clear h4 f4 ht4 hok4 hE4 r2 r5 rf
     go_wp2_with fail
     refine (rmust_any _ _ HA.out).mono ?_
     rintro e w5 ⟨rfl, ⟨j5, er5, pl5, h5, hj5, he5, hs5x⟩, f5⟩
     have H5 := Lib.hid h5
     have F5 := Lib.hid (FA.out.trans f5)
     have hE5 := Lib.hid (f5.box HA.out hEA.out (by decide) (by decide))
     have hB5 := f5.box HA.out hBA.out (by decide) (by decide)
     have HT5 := Lib.hid (HTA.out.fr f5 HA.out)
     have HE := Lib.hid he5
     obtain ⟨y0, y1, y2, y3⟩ := box4t hB5
     clear h5 f5 he5 hB5
     have bf : ∀ j, w5.frozen? ⟨w.heap.size, j, none⟩ = false := fun j => by simp [World.frozen?, hE5.out]
     obtain ⟨x0, x1, x2, x3⟩ := box4t hE5.out
     go_wp2_with fail
     obtain ⟨p0, p1, p2, p3⟩ := box4t (box_put4 hE5.out (.int .i64 k0) (.int .i64 k1) (.string k2) (.slice A0 m0 c0) rfl).1
     refine bodyPost_ret (v := .tuple #[.agg #[.int .i64 k0, .int .i64 k1, .string k2, .slice A0 m0 c0], .int .i64 0]) (by simp [results, go_sem, p0, p1, p2, p3]) rfl ?_
     exact ⟨_, 0, rfl, ret_boxP H5.out F5.out hB hE5.out (Nat.le_refl _) (HT5.out.more fun b hb => by have hb2 := hb; simp at hb2; exact ⟨by omega, by omega⟩) (by omega) (fun e => by
      obtain ⟨e1, e2⟩ := HE.out e
      obtain ⟨g0, g1, g2⟩ := HO.out e1
      exact ⟨g0, g1, by omega⟩) (Lib.hid (by rw [OP.out]; exact hsp.out.bind (hs5x.out.must (t5, (0 : Int)))))⟩
    | false =>
     clear hbm
     go_wp2_with fail
     refine (mark_any _ _ H7.out).mono ?_
     rintro e w8 ⟨⟨b8, rfl, hbm, hM2⟩, h8⟩
     have H8 := Lib.hid (H7.out.below h8)
     have F8 := Lib.hid (F7.out.trans (Fr.of_below h8 H7.out.base))
     have hE8 := Lib.hid ((h8.block _ (heap_lt hE7.out)).trans hE7.out)
     have hX8 := Lib.hid ((h8.block _ (heap_lt hX7.out)).trans hX7.out)
     obtain ⟨t0, t1, t2, t3⟩ := box4t hX8.out
     clear h8
     cases b8 with
     | true =>
      have hlt := hxl (by rw [hbm rfl]; decide)
      obtain ⟨r2, r5, rf⟩ := H8.out.cells
      have I8 := Lib.hid (H8.out.next hlt)
      have G8 := Lib.hid (Fr.setR (c := c) (w := w8) hBR 2 (.int .i64 ((i : Int) + 1)))
      have J8 := Lib.hid (F8.out.trans G8.out)
      have hEi8 := Lib.hid (G8.out.box H8.out hE8.out (by decide) (by decide))
      go_wp2_with fail
      have OP := Lib.hid (op_list (tm := tm) (most := most) (ns := ns) (tk := c.tk) (sz := c.s.size) K3.out K2.out K4.out hM1.out hM2.out)
      refine (list_any D IH hD _ i _ _ er I8.out).mono ?_
      rintro e w5 ⟨v5, rfl, j5, er5, t5, ns5, pl5, h5, f5, hj5, ht5, hok5, hsp⟩
      have hag := ht5.agg
      obtain ⟨k0, k1, k2, A0, m0, c0, rfl⟩ := hag
      have hE5 := Lib.hid (f5.box I8.out hEi8.out (by decide) (by decide))
      have H5 := Lib.hid h5
      have hsf := J8.out.size
      have hsl := heap_lt hEi8.out
      have F5 := Lib.hid (J8.out.trans f5)
      have HT5 := Lib.hid ht5
      have HO := Lib.hid hok5
      have hj6 : i ≤ j5 := by omega
      clear h5 f5 ht5 hok5 hj5 r2 r5 rf
      have bf : ∀ j, w5.frozen? ⟨w.heap.size, j, none⟩ = false := fun j => by simp [World.frozen?, hE5.out]
      obtain ⟨x0, x1, x2, x3⟩ := box4t hE5.out
      go_wp2_with fail
      obtain ⟨p0, p1, p2, p3⟩ := box4t (box_put4 hE5.out (.int .i64 k0) (.int .i64 k1) (.string k2) (.slice A0 m0 c0) rfl).1
      refine bodyPost_ret (v := .tuple #[.agg #[.int .i64 k0, .int .i64 k1, .string k2, .slice A0 m0 c0], .int .i64 0]) (by simp [results, go_sem, p0, p1, p2, p3]) rfl ?_
      exact ⟨_, 0, rfl, ret_boxP H5.out F5.out hB hE5.out (Nat.le_refl _) (HT5.out.more fun b hb => by have hb2 := hb; simp at hb2; exact ⟨by omega, by omega⟩) hj6 HO.out (Lib.hid (by rw [OP.out]; exact hsp.out.bindOk fun r => (r, (0 : Int))))⟩
     | false =>
      clear hbm
      go_wp2_with fail
      refine (mark_any _ _ H8.out).mono ?_
      rintro e w9 ⟨⟨b9, rfl, hbm, hM3⟩, h9⟩
      have H9 := Lib.hid (H8.out.below h9)
      have F9 := Lib.hid (F8.out.trans (Fr.of_below h9 H8.out.base))
      have hE9 := Lib.hid ((h9.block _ (heap_lt hE8.out)).trans hE8.out)
      have hX9 := Lib.hid ((h9.block _ (heap_lt hX8.out)).trans hX8.out)
      obtain ⟨t0, t1, t2, t3⟩ := box4t hX9.out
      clear h9
      cases b9 with
      | true =>
       have hlt := hxl (by rw [hbm rfl]; decide)
       obtain ⟨r2, r5, rf⟩ := H9.out.cells
       have I9 := Lib.hid (H9.out.next hlt)
       have G9 := Lib.hid (Fr.setR (c := c) (w := w9) hBR 2 (.int .i64 ((i : Int) + 1)))
       have J9 := Lib.hid (F9.out.trans G9.out)
       have hEi9 := Lib.hid (G9.out.box H9.out hE9.out (by decide) (by decide))
       go_wp2_with fail
       refine (mark_any _ _ I9.out).mono ?_
       rintro e wa ⟨⟨bb, rfl, hbm2, hM4⟩, ha⟩
       have HB := Lib.hid (I9.out.below ha)
       have FB := Lib.hid (J9.out.trans (Fr.of_below ha I9.out.base))
       have hEB := Lib.hid ((ha.block _ (heap_lt hEi9.out)).trans hEi9.out)
       clear ha r2 r5 rf
       cases bb with
       | true =>
        have hlt2 := nx_lt HB.out (by rw [hbm2 rfl]; decide)
        clear hbm2
        obtain ⟨r2, r5, rf⟩ := HB.out.cells
        obtain ⟨hup2, htn2⟩ := HB.out.up
        have IB := Lib.hid (HB.out.next hlt2)
        have GB := Lib.hid (Fr.setR (c := c) (w := wa) hBR 2 (.int .i64 (((i + 1 : Nat) : Int) + 1)))
        have JB := Lib.hid (FB.out.trans GB.out)
        have hEC := Lib.hid (GB.out.box HB.out hEB.out (by decide) (by decide))
        go_wp2_with fail
        refine (atom_any _ _).mono ?_
        rintro e w5 ⟨rfl, h5⟩
        have H5 := Lib.hid (IB.out.below h5)
        have F5 := Lib.hid (JB.out.trans (Fr.of_below h5 IB.out.base))
        have hE5 := Lib.hid ((h5.block _ (heap_lt hEC.out)).trans hEC.out)
        clear h5 r2 r5 rf
        have bf : ∀ j, w5.frozen? ⟨w.heap.size, j, none⟩ = false := fun j => by simp [World.frozen?, hE5.out]
        obtain ⟨x0, x1, x2, x3⟩ := box4t hE5.out
        go_wp2_with fail
        obtain ⟨p0, p1, p2, p3⟩ := box4t (box_put4 hE5.out (.int .i64 3) (.int .i64 0) (.string ⟨#[123, 125]⟩) (.slice none 0 0) rfl).1
        refine bodyPost_ret (v := .tuple #[.agg #[.int .i64 3, .int .i64 0, .string ⟨#[123, 125]⟩, .slice none 0 0], .int .i64 0]) (by simp [results, go_sem, p0, p1, p2, p3]) rfl ?_
        exact ⟨_, 0, rfl, ret_boxP H5.out F5.out hB hE5.out (Nat.le_refl _) (TP.leaf _ _ 3 0 _) (by omega) (fun e => ⟨e, atom_good _ (by decide), by rw [leaf_nodes]; omega⟩) (Lib.hid (by rw [op_cur0 (tk := c.tk) (sz := c.s.size) K3.out K2.out K4.out hM1.out hM2.out hM3.out hM4.out]; exact Sp.ok _ _ _))⟩
       | false =>
        clear hbm2
        obtain ⟨r2, r5, rf⟩ := HB.out.cells
        go_wp2_with fail
        have OP := Lib.hid (op_cur (tm := tm) (most := most) (ns := ns) (tk := c.tk) (sz := c.s.size) K3.out K2.out K4.out hM1.out hM2.out hM3.out hM4.out)
        refine (IH 1200 _ _ _ _ _ HB.out).mono ?_
        rintro e w4 ⟨v5, rfl, j4, er4, t5, ns4, pl4, h4, f4, hj4, ht4, hok4, hsp⟩
        have hag := ht4.agg
        obtain ⟨k0, k1, k2, A0, m0, c0, rfl⟩ := hag
        have hE4 := f4.box HB.out hEB.out (by decide) (by decide)
        have hsf := FB.out.size
        have hsl := heap_lt hEB.out
        have BB := Lib.hid ((Below.refl w4.heap.size w4).alloc (Nat.le_refl _) (Obj.cells #[.int .i64 k0, .int .i64 k1, .string k2, .slice A0 m0 c0] 39))
        have HA := Lib.hid (h4.below BB.out)
        have FA := Lib.hid ((FB.out.trans f4).trans (Fr.of_below BB.out h4.base))
        have hEA := Lib.hid ((BB.out.block _ (heap_lt hE4)).trans hE4)
        have hBA := Lib.hid (heap_alloc_new w4 (Obj.cells #[.int .i64 k0, .int .i64 k1, .string k2, .slice A0 m0 c0] 39))
        have HTA := Lib.hid (ht4.below BB.out)
        have HO := Lib.hid hok4
        clear h4 f4 ht4 hok4 hE4 r2 r5 rf
        go_wp2_with fail
        refine (rmust_any _ _ HA.out).mono ?_
        rintro e w5 ⟨rfl, ⟨j5, er5, pl5, h5, hj5, he5, hs5x⟩, f5⟩
        have H5 := Lib.hid h5
        have F5 := Lib.hid (FA.out.trans f5)
        have hE5 := Lib.hid (f5.box HA.out hEA.out (by decide) (by decide))
        have hB5 := f5.box HA.out hBA.out (by decide) (by decide)
        have HT5 := Lib.hid (HTA.out.fr f5 HA.out)
        have HE := Lib.hid he5
        obtain ⟨y0, y1, y2, y3⟩ := box4t hB5
        clear h5 f5 he5 hB5
        go_wp2_with fail
        refine (one_tp ⟨#[123, 125]⟩ (fun b => w.heap.size + 1 ≤ b) t5 _ _ (HT5.out.more fun b hb => by have hb2 : wa.heap.size ≤ b := hb; omega)).mono ?_
        rintro e w6 ⟨⟨v6, rfl, hv6⟩, h6⟩
        have hv7 := hv6
        obtain ⟨A6, c6, rfl, _⟩ := hv7
        have hE6' := Lib.hid ((h6.block _ (heap_lt hE5.out)).trans hE5.out)
        have HV := Lib.hid hv6
        have H6' := Lib.hid (H5.out.below h6)
        have F6' := Lib.hid (F5.out.trans (Fr.of_below h6 H5.out.base))
        have hs5 := F5.out.size
        have bf : ∀ j, w6.frozen? ⟨w.heap.size, j, none⟩ = false := fun j => by simp [World.frozen?, hE6'.out]
        obtain ⟨x0, x1, x2, x3⟩ := box4t hE6'.out
        have hw5 := heap_lt hE5.out
        clear hv6 h6
        go_wp2_with fail
        obtain ⟨p0, p1, p2, p3⟩ := box4t (box_put4 hE6'.out (.int .i64 4) (.int .i64 0) (.string ⟨#[123, 125]⟩) (.slice A6 1 c6) rfl).1
        refine bodyPost_ret (v := .tuple #[.agg #[.int .i64 4, .int .i64 0, .string ⟨#[123, 125]⟩, .slice A6 1 c6], .int .i64 0]) (by simp [results, go_sem, p0, p1, p2, p3]) rfl ?_
        exact ⟨_, 0, rfl, ret_boxP H6'.out F6'.out hB hE6'.out (Nat.le_refl _) (HV.out.more fun b hb => by rcases hb with hb | hb; exact ⟨by omega, by omega⟩; exact ⟨by omega, by omega⟩) (by omega) (fun e => by
         obtain ⟨e1, e2⟩ := HE.out e
         obtain ⟨g0, g1, g2⟩ := HO.out e1
         refine ⟨g0, cmp_good _ (by decide) _ (by omega) _ fun _ _ => g1, ?_⟩
         simp only [T.nodes, sumTo]
         omega) (Lib.hid (by rw [OP.out]; exact hsp.out.bind (hs5x.out.must (oneT curS t5, (0 : Int)))))⟩
      | false =>
       clear hbm
       cases hk : ((nx c i).k == 1) with
       | true =>
        have hbm : true = true → (nx c i).k = 5 ∨ True := fun _ => .inr trivial
        clear hbm
        have hlt := hxl (by simp at hk; omega)
        obtain ⟨r2, r5, rf⟩ := H9.out.cells
        have I9 := Lib.hid (H9.out.next hlt)
        have G9 := Lib.hid (Fr.setR (c := c) (w := w9) hBR 2 (.int .i64 ((i : Int) + 1)))
        have J9 := Lib.hid (F9.out.trans G9.out)
        have hEi9 := Lib.hid (G9.out.box H9.out hE9.out (by decide) (by decide))
        have hXi := Lib.hid (G9.out.box H9.out hX9.out (by decide) (by decide))
        go_wp2_with fail
        have OP := Lib.hid (op_named (tm := tm) (most := most) (ns := ns) (tk := c.tk) (sz := c.s.size) K3.out K2.out K4.out hM1.out hM2.out hM3.out hk)
        refine (named_rd D IH hD (nx c i).k (nx c i).t (nx c i).a (nx c i).b most _ i (i + 1) (Nat.le_refl _) _ _ er I9.out hxs).mono ?_
        rintro e w5 ⟨v5, pp, rfl, j5, er5, t5, ns5, pl5, h5, f5, hj5, ht5, hok5, hsp⟩
        have hag := ht5.agg
        obtain ⟨k0, k1, k2, A0, m0, c0, rfl⟩ := hag
        have hE5 := Lib.hid (f5.box I9.out hEi9.out (by decide) (by decide))
        have H5 := Lib.hid h5
        have hsf := J9.out.size
        have hsl := heap_lt hEi9.out
        have F5 := Lib.hid (J9.out.trans f5)
        have HT5 := Lib.hid ht5
        have HO := Lib.hid hok5
        have hj6 : i ≤ j5 := by omega
        clear h5 f5 ht5 hok5 hj5 r2 r5 rf
        have bf : ∀ j, w5.frozen? ⟨w.heap.size, j, none⟩ = false := fun j => by simp [World.frozen?, hE5.out]
        obtain ⟨x0, x1, x2, x3⟩ := box4t hE5.out
        go_wp2_with fail
        obtain ⟨p0, p1, p2, p3⟩ := box4t (box_put4 hE5.out (.int .i64 k0) (.int .i64 k1) (.string k2) (.slice A0 m0 c0) rfl).1
        refine bodyPost_ret (v := .tuple #[.agg #[.int .i64 k0, .int .i64 k1, .string k2, .slice A0 m0 c0], .int .i64 pp]) (by simp [results, go_sem, p0, p1, p2, p3]) rfl ?_
        exact ⟨_, pp, rfl, ret_boxP H5.out F5.out hB hE5.out (Nat.le_refl _) (HT5.out.more fun b hb => by have hb2 := hb; simp at hb2; exact ⟨by omega, by omega⟩) hj6 HO.out (Lib.hid (by rw [OP.out]; exact hsp.out))⟩
       | false =>
        go_wp2_with fail
        have OP := Lib.hid (op_wrong (tm := tm) (most := most) (ns := ns) (tk := c.tk) (sz := c.s.size) K3.out K2.out K4.out hM1.out hM2.out hM3.out hk)
        refine (wrong_any _ H9.out).mono ?_
        rintro e w5 ⟨rfl, ⟨er5, pl5, h5, hn5, hs5x⟩, f5⟩
        have H5 := Lib.hid h5
        have F5 := Lib.hid (F9.out.trans f5)
        have hE5 := Lib.hid (f5.box H9.out hE9.out (by decide) (by decide))
        clear h5 f5
        have bf : ∀ j, w5.frozen? ⟨w.heap.size, j, none⟩ = false := fun j => by simp [World.frozen?, hE5.out]
        obtain ⟨x0, x1, x2, x3⟩ := box4t hE5.out
        go_wp2_with fail
        obtain ⟨p0, p1, p2, p3⟩ := box4t (box_put4 hE5.out (.int .i64 0) (.int .i64 0) (.string ⟨#[]⟩) (.slice none 0 0) rfl).1
        refine bodyPost_ret (v := .tuple #[.agg #[.int .i64 0, .int .i64 0, .string ⟨#[]⟩, .slice none 0 0], .int .i64 0]) (by simp [results, go_sem, p0, p1, p2, p3]) rfl ?_
        exact ⟨_, 0, rfl, ret_boxP H5.out F5.out hB hE5.out (Nat.le_refl _) (TP.leaf _ _ 0 0 ⟨#[]⟩) (Nat.le_refl _) (fun e => absurd e hn5) (Lib.hid (by rw [OP.out]; exact Sp.any (hs5x.out ((), 0, [])) _))⟩
end Go.Proofs.YtibcpdmeigdgpaaGreatDoor
