/- The program's parser: inside brackets. -/
import Derived.Test.YtlogcealmiokkaaGreatDoorKRq8
import Derived.Test.YtlogcealmiokkaaGreatDoorKRd9
namespace Go.Proofs.YtlogcealmiokkaaGreatDoor
open Go.RowKit
theorem Pd.putT {c : Rdc} {w : World} {i : Nat} {ns : List ByteArray} (h : Pd w c i ns) {g : Nat} {m : Nat × Nat} {u0 u1 u2 u3 : Value} (hb : w.heap[g]? = some (.cells #[u0, u1, u2, u3] 31 m)) (x0 x1 x2 x3 : Value) :
 Pd ((((w.setCell ⟨g, 0, none⟩ x0).setCell ⟨g, 1, none⟩ x1).setCell ⟨g, 2, none⟩ x2).setCell ⟨g, 3, none⟩ x3) c i ns := by
 have h1 := h.set_far hb 0 x0 (by decide) (by decide) (by decide)
 have b1 := blk_set hb 0 x0
 have h2 := h1.set_far b1 1 x1 (by decide) (by decide) (by decide)
 have b2 := blk_set b1 1 x1
 have h3 := h2.set_far b2 2 x2 (by decide) (by decide) (by decide)
 have b3 := blk_set b2 2 x2
 exact h3.set_far b3 3 x3 (by decide) (by decide) (by decide)
theorem Frp.put {c : Rdc} {w0 w : World} (h : Frp c w0 w) {g : Nat} (hg : w0.heap.size ≤ g) (hB : c.B ≤ w0.heap.size) {t : TypeId} {m : Nat × Nat} {u0 u1 u2 u3 : Value} (hb : w.heap[g]? = some (.cells #[u0, u1, u2, u3] t m)) (x0 x1 x2 x3 : Value) :
 Frp c w0 ((((w.setCell ⟨g, 0, none⟩ x0).setCell ⟨g, 1, none⟩ x1).setCell ⟨g, 2, none⟩ x2).setCell ⟨g, 3, none⟩ x3) := by
 obtain ⟨_, _, p2, p3⟩ := box_put4 hb x0 x1 x2 x3 rfl
 exact ⟨p3 _ _ (by omega) h.low, fun b cs t' m' hb' hR ht => (p2 b (by have := heap_lt hb'; omega)).trans (h.keep b cs t' m' hb' hR ht)⟩
theorem ret_boxp {c : Rdc} {w wk : World} {i j : Nat} {ns' : List ByteArray} {res : PR T} {t : T} {g : Nat} {m : Nat × Nat} {u0 u1 u2 u3 x0 x1 x2 x3 : Value} (H : Pd wk c j ns') (F : Frp c w wk) (hB : c.B ≤ w.heap.size)
 (hbx : wk.heap[g]? = some (.cells #[u0, u1, u2, u3] 31 m)) (hg : w.heap.size ≤ g) (ht : TP wk (fun b => w.heap.size ≤ b ∧ b ≠ g) t (.agg #[x0, x1, x2, x3])) (hj : i ≤ j) (hgd : t.good) (hnd : i + t.nodes ≤ j) (hres : res = .ok (t, j, ns')) :
 PQ c w i res (RelT w i) (.returned (.agg #[x0, x1, x2, x3])) ((((wk.setCell ⟨g, 0, none⟩ x0).setCell ⟨g, 1, none⟩ x1).setCell ⟨g, 2, none⟩ x2).setCell ⟨g, 3, none⟩ x3) := by
 subst hres
 exact ⟨F.put hg hB hbx _ _ _ _, _, rfl, H.putT hbx _ _ _ _, hj, (tp_put hbx _ _ _ _ ht fun _ hb => hb.2).more fun _ hb => hb.1, hgd, hnd⟩
set_option maxRecDepth 100000 in
set_option maxHeartbeats 4000000 in
theorem pinside_any {c : Rdc} (D : Nat) {tm : Int → Nat → List ByteArray → PR T} (IH : PTermC c ((D : Int) + 1) tm) (hD : D ≤ 64) (m : ByteArray) (w : World) (i : Nat) (ns : List ByteArray) (h : Pd w c i ns) (hev : Ev c w) :
 Calls Tryz.prog 75 #[.pointer (some ⟨c.R, 0, none⟩), .int .i64 (D : Int), .string m] w fun e w' => PQ c w i ((tm 1200 i ns).andThen fun r j ns1 => mustN c.tk c.s.size m r j ns1) (RelT w i) e w' := by
 have hB := h.base
 have H := Lib.hid h
 have HE := Lib.hid hev
 clear h hev
 obtain ⟨RS, hRS⟩ : ∃ RS, ((tm 1200 i ns).andThen fun r j ns1 => mustN c.tk c.s.size m r j ns1) = RS := ⟨_, rfl⟩
 rw [hRS]
 have H1 := Lib.hid (H.out.alloc (Obj.cells #[.int .i64 0, .int .i64 0, .string ⟨#[]⟩, .slice none 0 0] 31))
 have B1 := Lib.hid (belP (Below.refl w.heap.size w) (Obj.cells #[.int .i64 0, .int .i64 0, .string ⟨#[]⟩, .slice none 0 0] 31))
 have F1 := Lib.hid (Frp.of_below B1.out hB)
 have x0 := Lib.hid (heap_alloc_new w (Obj.cells #[.int .i64 0, .int .i64 0, .string ⟨#[]⟩, .slice none 0 0] 31))
 go_enter Tryz.func75, Tryz.ntmps75
 go_wp2_with fail
 refine (IH 1200 _ _ _ H1.out (HE.out.fr F1.out)).mono ?_
 rintro e w1 hq
 cases hres : tm 1200 i ns with
 | error pk =>
  obtain ⟨p, k⟩ := pk
  obtain ⟨f1, rfl⟩ := hq.err hres
  have HR := Lib.hid (show RS = .error (p, k) by rw [← hRS, hres]; rfl)
  clear hq hres hRS
  go_wp2_with fail
  refine ⟨rfl, ?_⟩
  rw [HR.out]
  exact ⟨F1.out.trans f1, rfl⟩
 | ok y =>
  obtain ⟨t, j, ns1⟩ := y
  obtain ⟨f1, v, rfl, h1, hj, ht, hgood, hnod⟩ := hq.ok hres
  obtain ⟨k0, k1, k2, A0, m0, c0, rfl⟩ := ht.agg
  have HR := Lib.hid (show RS = mustN c.tk c.s.size m t j ns1 by rw [← hRS, hres]; rfl)
  have H2 := Lib.hid (h1.alloc (Obj.cells #[.int .i64 k0, .int .i64 k1, .string k2, .slice A0 m0 c0] 31))
  have F2 := Lib.hid ((F1.out.trans f1).newalloc hB (Obj.cells #[.int .i64 k0, .int .i64 k1, .string k2, .slice A0 m0 c0] 31))
  have y0 := Lib.hid (heap_alloc_new w1 (Obj.cells #[.int .i64 k0, .int .i64 k1, .string k2, .slice A0 m0 c0] 31))
  have hs1 := f1.size
  have x1 := Lib.hid (((Below.heap_alloc w1 (Obj.cells #[.int .i64 k0, .int .i64 k1, .string k2, .slice A0 m0 c0] 31) _ (Nat.lt_of_lt_of_le (heap_lt x0.out) hs1))).trans (f1.boxp H1.out x0.out (by decide) (by decide)))
  have hin : ∀ b, (w.alloc (Obj.cells #[.int .i64 0, .int .i64 0, .string ⟨#[]⟩, .slice none 0 0] 31)).heap.size ≤ b → w.heap.size ≤ b ∧ b ≠ w.heap.size := fun b hS => by
   simp at hS
   exact ⟨by omega, by omega⟩
  have T2 := Lib.hid (ht.keep (S' := fun b => w.heap.size ≤ b ∧ b ≠ w.heap.size) (w' := w1.alloc (Obj.cells #[.int .i64 k0, .int .i64 k1, .string k2, .slice A0 m0 c0] 31)) fun b cs f hS hb => ⟨(Below.heap_alloc _ _ _ (heap_lt hb)).trans hb, hin b hS⟩)
  clear hin
  have HJ := Lib.hid (And.intro hj (And.intro hgood hnod))
  clear hq hres hRS h1 f1 ht hj hgood hnod
  go_wp2_with fail
  refine (pmust_any m _ H2.out).mono ?_
  rintro e w2 hq
  cases hres : mustN c.tk c.s.size m () j ns1 with
  | error pk =>
   obtain ⟨p, k⟩ := pk
   obtain ⟨f2, rfl⟩ := hq.err hres
   have HR2 := Lib.hid (show RS = .error (p, k) by
    rw [HR.out]
    unfold mustN at hres ⊢
    split at hres
    ·cases hres
    ·rename_i h9
     rw [if_neg h9]
     injection hres with hres
     rw [hres])
   clear hq hres
   go_wp2_with fail
   refine ⟨rfl, ?_⟩
   rw [HR2.out]
   exact ⟨F2.out.trans f2, rfl⟩
  | ok y =>
   obtain ⟨_, j2, ns2⟩ := y
   obtain ⟨f2, v, rfl, h2, hj2, rfl, hji⟩ := hq.ok hres
   have HR2 := Lib.hid (show RS = .ok (t, j2, ns2) by
    rw [HR.out]
    unfold mustN at hres ⊢
    split at hres
    ·rename_i h9
     rw [if_pos h9]
     injection hres with hres
     injection hres with _ hres
     rw [hres]
    ·cases hres)
   have x2 := Lib.hid (f2.boxp H2.out x1.out (by decide) (by decide))
   have y2 := Lib.hid (f2.boxp H2.out y0.out (by decide) (by decide))
   have T3 := Lib.hid (T2.out.frp f2 H2.out)
   have H3 := Lib.hid h2
   have F3 := Lib.hid (F2.out.trans f2)
   have hsz2 := f2.size
   have hsz1 : w1.heap.size < w2.heap.size := by simp at hsz2; omega
   have hsz0 : w.heap.size < w2.heap.size := by simp at hs1; omega
   obtain ⟨a0, a1, a2, a3⟩ := box4t x2.out
   obtain ⟨b0, b1, b2, b3⟩ := box4t y2.out
   have af : ∀ j, w2.frozen? ⟨w.heap.size, j, none⟩ = false := fun j => by simp [World.frozen?, x2.out]
   clear hq hres h2 f2 hsz2 hs1
   go_wp2_with fail
   obtain ⟨p0, p1, p2, p3⟩ := box4t (box_put4 x2.out (.int .i64 k0) (.int .i64 k1) (.string k2) (.slice A0 m0 c0) rfl).1
   refine bodyPost_ret (v := .agg #[.int .i64 k0, .int .i64 k1, .string k2, .slice A0 m0 c0]) (by simp [results, go_sem, p0, p1, p2, p3]) rfl ?_
   exact ret_boxp H3.out F3.out hB x2.out (Nat.le_refl _) T3.out (Nat.le_trans HJ.out.1 hj2) HJ.out.2.1 (by have := HJ.out.2.2; omega) HR2.out
end Go.Proofs.YtlogcealmiokkaaGreatDoor
