/- The program's parser: the closure of 'term' that reads an operand. -/
import Derived.Test.YtlogcealmiokkaaGreatDoorKRqe
namespace Go.Proofs.YtlogcealmiokkaaGreatDoor
open Go.RowKit
structure Cb (w : World) (c : Rdc) (d5 s7 r3 m4 : Nat) (D most : Int) (sv : Value) : Prop where
 hd : w.heap[d5]? = some (.cells #[.int .i64 D] 3 (0, 0))
 hs : w.heap[s7]? = some (.cells #[sv] 85 (0, 0))
 hr : w.heap[r3]? = some (.cells #[.pointer (some ⟨c.R, 0, none⟩)] 51 (0, 0))
 hm : w.heap[m4]? = some (.cells #[.int .i64 most] 3 (0, 0))
theorem Cb.fr {w w' : World} {c : Rdc} {d5 s7 r3 m4 : Nat} {D most : Int} {sv : Value} {j : Nat} {ns : List ByteArray} (h : Cb w c d5 s7 r3 m4 D most sv) (f : Frp c w w') (hp : Pd w c j ns) : Cb w' c d5 s7 r3 m4 D most sv :=
 ⟨f.boxp hp h.hd (by decide) (by decide), f.boxp hp h.hs (by decide) (by decide), f.boxp hp h.hr (by decide) (by decide), f.boxp hp h.hm (by decide) (by decide)⟩
theorem Cb.cells {w : World} {c : Rdc} {d5 s7 r3 m4 : Nat} {D most : Int} {sv : Value} (h : Cb w c d5 s7 r3 m4 D most sv) : w.cell? ⟨d5, 0, none⟩ = some (.int .i64 D) ∧ w.cell? ⟨s7, 0, none⟩ = some sv ∧ w.cell? ⟨r3, 0, none⟩ = some (.pointer (some ⟨c.R, 0, none⟩)) ∧ w.cell? ⟨m4, 0, none⟩ = some (.int .i64 most) :=
 ⟨cell_of_row _ _ 0 _ _ _ h.hd, cell_of_row _ _ 0 _ _ _ h.hs, cell_of_row _ _ 0 _ _ _ h.hr, cell_of_row _ _ 0 _ _ _ h.hm⟩
theorem Cb.lt {w : World} {c : Rdc} {d5 s7 r3 m4 : Nat} {D most : Int} {sv : Value} (h : Cb w c d5 s7 r3 m4 D most sv) : d5 < w.heap.size ∧ s7 < w.heap.size ∧ r3 < w.heap.size ∧ m4 < w.heap.size := ⟨heap_lt h.hd, heap_lt h.hs, heap_lt h.hr, heap_lt h.hm⟩
set_option maxRecDepth 100000 in
set_option maxHeartbeats 8000000 in
theorem penter_no {c : Rdc} {d5 s7 r3 m4 : Nat} (D n cc : Nat) (A : Option Addr) {most : Int} (w : World) (i : Nat) (ns : List ByteArray) (h : Pd w c i ns) (hc : Cb w c d5 s7 r3 m4 (D : Int) most (.slice A n cc)) (hDn : 64 < D + n) (hD : D ≤ 70) (hn : n ≤ 70) :
 Calls Tryz.prog 53 #[.pointer (some ⟨d5, 0, none⟩), .pointer (some ⟨s7, 0, none⟩), .pointer (some ⟨r3, 0, none⟩), .pointer (some ⟨m4, 0, none⟩)] w fun e w' => e = .panicked [wrongP ((nx c i).a : Int) 52] ∧ Frp c w w' := by
 have hB := h.base
 have H1 := Lib.hid (h.alloc (Obj.cells #[.int .i64 0, .int .i64 0, .string ⟨#[]⟩, .slice none 0 0] 31))
 have F1 := Lib.hid (Frp.of_below (belP (Below.refl w.heap.size w) (Obj.cells #[.int .i64 0, .int .i64 0, .string ⟨#[]⟩, .slice none 0 0] 31)) hB)
 obtain ⟨q0, q1, q2, q3⟩ := hc.cells
 obtain ⟨l0, l1, l2, l3⟩ := hc.lt
 have hDn' : (64 : Int) < (D : Int) + (n : Int) := by omega
 have fl := fld_tok2
 clear h hc
 go_enter Tryz.func53, Tryz.ntmps53
 go_wp2_with fail
 refine (ppeek_any _ H1.out).mono ?_
 rintro e w2 ⟨rfl, hb2⟩
 have F2 := Lib.hid (F1.out.trans (Frp.of_below hb2 H1.out.base))
 clear hb2
 go_wp2_with fail
 exact ⟨rfl, rfl, F2.out⟩
set_option maxRecDepth 100000 in
set_option maxHeartbeats 8000000 in
theorem penter_ok {c : Rdc} {d5 s7 r3 m4 : Nat} (D n cc : Nat) (A : Option Addr) {most : Int} {tm : Int → Nat → List ByteArray → PR T} (IH : PTermC c (((D + n : Nat) : Int) + 1) tm) (w : World) (i : Nat) (ns : List ByteArray) (h : Pd w c i ns) (hev : Ev c w) (hc : Cb w c d5 s7 r3 m4 (D : Int) most (.slice A n cc)) (hDn : D + n ≤ 64) :
 Calls Tryz.prog 53 #[.pointer (some ⟨d5, 0, none⟩), .pointer (some ⟨s7, 0, none⟩), .pointer (some ⟨r3, 0, none⟩), .pointer (some ⟨m4, 0, none⟩)] w fun e w' => PQ c w i (operandP c.tk c.s.size tm most i ns) (RelT2 w i) e w' := by
 have hB := h.base
 have H1 := Lib.hid (h.alloc (Obj.cells #[.int .i64 0, .int .i64 0, .string ⟨#[]⟩, .slice none 0 0] 31))
 have F1 := Lib.hid (Frp.of_below (belP (Below.refl w.heap.size w) (Obj.cells #[.int .i64 0, .int .i64 0, .string ⟨#[]⟩, .slice none 0 0] 31)) hB)
 have X1 := Lib.hid (heap_alloc_new w (Obj.cells #[.int .i64 0, .int .i64 0, .string ⟨#[]⟩, .slice none 0 0] 31))
 have E1 := Lib.hid (hev.fr F1.out)
 obtain ⟨q0, q1, q2, q3⟩ := hc.cells
 obtain ⟨l0, l1, l2, l3⟩ := hc.lt
 have hDn' : ¬ (64 : Int) < (D : Int) + (n : Int) := by omega
 have hcast : ((D : Int) + (n : Int)) = ((D + n : Nat) : Int) := by omega
 have CO := Lib.hid (poperand_any (D + n) IH hDn most _ _ _ H1.out E1.out)
 rw [← hcast] at CO
 clear h hc hev hcast
 go_enter Tryz.func53, Tryz.ntmps53
 go_wp2_with fail
 refine CO.out.mono ?_
 rintro e w4 hq
 cases hres : operandP c.tk c.s.size tm most i ns with
 | error pk =>
  obtain ⟨p, k⟩ := pk
  obtain ⟨f4, rfl⟩ := hq.err hres
  have F4 := Lib.hid (F1.out.trans f4)
  have HRES := Lib.hid hres
  clear hq hres f4 CO
  go_wp2_with fail
  refine ⟨rfl, ?_⟩
  rw [HRES.out]
  exact ⟨F4.out, rfl⟩
 | ok yy =>
  obtain ⟨⟨t, pr⟩, j, ns4⟩ := yy
  obtain ⟨f4, v, rfl, h4, hj, tv, rfl, ht, hgood, hnod⟩ := hq.ok hres
  obtain ⟨k0, k1, k2, A0, m0, c0, rfl⟩ := ht.agg
  have H4 := Lib.hid h4
  have F4 := Lib.hid (F1.out.trans f4)
  have X4 := Lib.hid (f4.boxp H1.out X1.out (by decide) (by decide))
  have hin : ∀ b, (w.alloc (Obj.cells #[.int .i64 0, .int .i64 0, .string ⟨#[]⟩, .slice none 0 0] 31)).heap.size ≤ b → w.heap.size ≤ b ∧ b ≠ w.heap.size := fun b hS => by
   simp at hS
   exact ⟨by omega, by omega⟩
  have TP7 := Lib.hid (ht.more (S' := fun b => w.heap.size ≤ b ∧ b ≠ w.heap.size) hin)
  have HJ := Lib.hid (And.intro hj (And.intro hgood hnod))
  have HRES := Lib.hid hres
  obtain ⟨x0, x1, x2, x3⟩ := box4t X4.out
  have xf : ∀ j, w4.frozen? ⟨w.heap.size, j, none⟩ = false := fun j => by simp [World.frozen?, X4.out]
  clear hq hres h4 f4 ht hj hgood hnod hin CO
  go_wp2_with fail
  obtain ⟨p0, p1, p2, p3⟩ := box4t (box_put4 X4.out (.int .i64 k0) (.int .i64 k1) (.string k2) (.slice A0 m0 c0) rfl).1
  refine bodyPost_ret (v := .tuple #[.agg #[.int .i64 k0, .int .i64 k1, .string k2, .slice A0 m0 c0], .int .i64 pr]) (by simp [results, go_sem, p0, p1, p2, p3]) rfl ?_
  exact ret_box2 H4.out F4.out hB X4.out (Nat.le_refl _) TP7.out HJ.out.1 HJ.out.2.1 HJ.out.2.2 HRES.out
end Go.Proofs.YtlogcealmiokkaaGreatDoor
