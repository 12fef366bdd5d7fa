/- coneylaw09's read, sides: the terms that they hand back. coneylaw09's sameInts, great. Both stores side by side: each call of a step in a pair, for any number. coneylaw09's step: it plays one call at both stores, and they say the same. coneylaw09's step: Set of a text's term. coneylaw09's step: Unify of a text's sides; and the whole of it. coneylaw09's alike: two stores that stand side by side tell the same. The walk through coneylaw09's alike. The walk through coneylaw09's heavy. The walk through the law StoreScript. A row of steps that a law is given, opened. -/
import Derived.Test.YtgoedlbdnmhppaaRd14
import Derived.Test.YtgoedlbdnmhppaaMb
import Derived.Test.YtgoedlbdnmhppaaMa
import Derived.Test.YtgoedlbdnmhppaaStep
import Derived.Deep.RegionHeld3
import Derived.Deep.DrawnRows
import Derived.Test.YtgoedlbdnmhppaaSized
import Derived.Deep.Slices
import Derived.ChangeSame
import Derived.OpenShut
namespace Go.Proofs.Ytgoedlbdnmhppaa
open Go.RowKit
attribute [local go_sem ↓] Go.wp_at_zero Go.wp_at_succ

def LTP (w : World) (e : Ending) (w' : World) : Prop :=
  (∃ (k n : Int) (s : ByteArray) (A : Option Addr) (m c : Nat) (t : T), e = .returned (.agg #[.int .i64 k, .int .i64 n, .string s, .slice A m c]) ∧ TP w' (fun b => w.heap.size ≤ b) t (.agg #[.int .i64 k, .int .i64 n, .string s, .slice A m c]) ∧ t.good ∧ t.nodes ≤ 1000) ∧ Below w.heap.size w w'
theorem ltp_leaf {w W : World} (hW : Below w.heap.size w W) : LTP w (.returned (.agg #[.int .i64 3, .int .i64 0, .string ⟨#[110, 111, 110, 101]⟩, .slice none 0 0])) W :=
  ⟨⟨3, 0, ⟨#[110, 111, 110, 101]⟩, none, 0, 0, .mk 3 0 ⟨#[110, 111, 110, 101]⟩ 0 fun _ => .nil, rfl, TP.leaf W _ 3 0 ⟨#[110, 111, 110, 101]⟩, ⟨.inr (.inr (.inl ⟨rfl, rfl, by decide, rfl⟩)), fun i h => absurd h (by omega)⟩, by rw [leaf_nodes]; decide⟩, hW⟩
set_option maxRecDepth 100000 in
set_option maxHeartbeats 4000000 in
theorem wone_tp (s : ByteArray) (w : World) : Calls Try.prog 34 #[.string s] w fun e w' => LTP w e w' := by
  go_enter Try.func34, Try.ntmps34
  go_wp2_with fail
  refine (one_any s _).mono ?_
  rintro e w1 ⟨⟨k, n, tx, A, m, c, NA, nn, nc, p, er, rfl, hok⟩, h1⟩
  have hE1 := Lib.hid ((h1.block w.heap.size (by simp)).trans (heap_alloc_new w (Obj.cells #[.int .i64 0, .int .i64 0, .string ⟨#[]⟩, .slice none 0 0] 40)))
  have B1 := Lib.hid (((Below.refl w.heap.size w).alloc (Nat.le_refl _) (Obj.cells #[.int .i64 0, .int .i64 0, .string ⟨#[]⟩, .slice none 0 0] 40)).trans (h1.mono (by simp)))
  have hlt : w.heap.size < w1.heap.size := heap_lt hE1.out
  have xf : ∀ j, w1.frozen? ⟨w.heap.size, j, none⟩ = false := fun j => by simp [World.frozen?, hE1.out]
  obtain ⟨x0, x1, x2, x3⟩ := box4t hE1.out
  clear h1
  by_cases he : er = 0
  · subst he
    obtain ⟨t, ht, hgd, hnd⟩ := hok rfl
    have HT := Lib.hid ht
    clear ht hok
    go_wp2_with fail
    have P := box_put4 hE1.out (.int .i64 k) (.int .i64 n) (.string tx) (.slice A m c) rfl
    obtain ⟨p0, p1, p2, p3⟩ := box4t P.1
    refine bodyPost_ret (v := .agg #[.int .i64 k, .int .i64 n, .string tx, .slice A m c]) (by simp [results, go_sem, p0, p1, p2, p3, hlt]) rfl ?_
    have B2 := P.2.2.2 _ _ (Nat.le_refl _) B1.out
    refine ⟨⟨_, _, _, _, _, _, t, rfl, ((tp_put hE1.out _ _ _ _ HT.out fun b hb => ?_).below ((Below.refl _ _).alloc (Nat.le_refl _) _)).more fun b hb => ?_, hgd, hnd⟩, B2.alloc B2.size _⟩
    rotate_left
    · exact Nat.le_trans (by simp) (show (w.alloc (Obj.cells #[.int .i64 0, .int .i64 0, .string ⟨#[]⟩, .slice none 0 0] 40)).heap.size ≤ b from hb)
    have hb2 : (w.alloc (Obj.cells #[.int .i64 0, .int .i64 0, .string ⟨#[]⟩, .slice none 0 0] 40)).heap.size ≤ b := hb
    simp at hb2
    omega
  · have hne : (er == 0) = false := by simpa using he
    clear hok
    go_wp2_with fail
    have P := box_put4 hE1.out (.int .i64 3) (.int .i64 0) (.string ⟨#[110, 111, 110, 101]⟩) (.slice none 0 0) rfl
    obtain ⟨p0, p1, p2, p3⟩ := box4t P.1
    refine bodyPost_ret (v := .agg #[.int .i64 3, .int .i64 0, .string ⟨#[110, 111, 110, 101]⟩, .slice none 0 0]) (by simp [results, go_sem, p0, p1, p2, p3, hlt]) rfl ?_
    have B2 := P.2.2.2 _ _ (Nat.le_refl _) B1.out
    exact ltp_leaf (B2.alloc B2.size _)
/-- Both sides, two terms. -/
def SidesP (w : World) (e : Ending) (w' : World) : Prop :=
  (∃ (k n : Int) (s : ByteArray) (A : Option Addr) (m c : Nat) (j l : Int) (u : ByteArray) (B : Option Addr) (p d : Nat) (a b : T), e = .returned (.tuple #[.agg #[.int .i64 k, .int .i64 n, .string s, .slice A m c], .agg #[.int .i64 j, .int .i64 l, .string u, .slice B p d]]) ∧
    TP w' (fun _ => True) a (.agg #[.int .i64 k, .int .i64 n, .string s, .slice A m c]) ∧ TP w' (fun _ => True) b (.agg #[.int .i64 j, .int .i64 l, .string u, .slice B p d]) ∧ a.ok ∧ b.ok) ∧ Below w.heap.size w w'
/-- All blocks from one on are as they were. -/
def Past (B : Nat) (w w' : World) : Prop := ∀ b, B ≤ b → w'.heap[b]? = w.heap[b]?
theorem Past.refl (B : Nat) (w : World) : Past B w w := fun _ _ => rfl
theorem Past.drew {B : Nat} {w w' : World} (h : Past B w w') : Past B w w'.drew := h
theorem Past.set {B : Nat} {w w' : World} (h : Past B w w') {p : Addr} (hp : p.block < B) (u : Value) : Past B w (w'.setCell p u) := fun b hb => (Below.heap_setCell _ _ _ _ (by omega)).trans (h b hb)
theorem Past.set0 {n : Nat} {w w' : World} (h : Past (n + 2) w w') (i : Nat) (u : Value) : Past (n + 2) w (w'.setCell ⟨n, i, none⟩ u) := h.set (by show n < n + 2; omega) u
theorem Past.set1 {n : Nat} {w w' : World} (h : Past (n + 2) w w') (i : Nat) (u : Value) : Past (n + 2) w (w'.setCell ⟨n + 1, i, none⟩ u) := h.set (by show n + 1 < n + 2; omega) u
theorem put_two {w wr : World} {g h : Nat} {u0 u1 u2 u3 v0 v1 v2 v3 : Value} {ty : TypeId} {m : Nat × Nat} (hg : wr.heap[g]? = some (.cells #[u0, u1, u2, u3] ty m)) (hh : wr.heap[h]? = some (.cells #[v0, v1, v2, v3] ty m)) (hne : g ≠ h) (hlg : w.heap.size ≤ g) (hlh : w.heap.size ≤ h) (hb : Below w.heap.size w wr) (a0 a1 a2 a3 b0 b1 b2 b3 : Value) {W : World}
    (hW : W = ((((((((wr.setCell ⟨g, 0, none⟩ a0).setCell ⟨g, 1, none⟩ a1).setCell ⟨g, 2, none⟩ a2).setCell ⟨g, 3, none⟩ a3).setCell ⟨h, 0, none⟩ b0).setCell ⟨h, 1, none⟩ b1).setCell ⟨h, 2, none⟩ b2).setCell ⟨h, 3, none⟩ b3)) :
    W.heap[g]? = some (.cells #[a0, a1, a2, a3] ty m) ∧ W.heap[h]? = some (.cells #[b0, b1, b2, b3] ty m) ∧ (∀ k, k ≠ g → k ≠ h → W.heap[k]? = wr.heap[k]?) ∧ Below w.heap.size w W := by
  have P := box_put4 hg a0 a1 a2 a3 rfl
  have Q := box_put4 ((P.2.2.1 h (Ne.symm hne)).trans hh) b0 b1 b2 b3 hW.symm
  exact ⟨(Q.2.2.1 g hne).trans P.1, Q.1, fun k h1 h2 => (Q.2.2.1 k h2).trans (P.2.2.1 k h1), Q.2.2.2 _ _ hlh (P.2.2.2 _ _ hlg hb)⟩
set_option maxRecDepth 100000 in
set_option maxHeartbeats 4000000 in
theorem sides_any (s : ByteArray) (w : World) : Calls Try.prog 31 #[.string s] w fun e w' => SidesP w e w' := by
  go_enter Try.func31, Try.ntmps31
  go_wp2_with fail
  refine (wone_tp s _).mono ?_
  rintro e w1 ⟨⟨k, n, tx, A, m, c, t, rfl, ht, hgd, hnd⟩, h1⟩
  have B0 := Lib.hid ((((Below.refl w.heap.size w).alloc (Nat.le_refl _) (Obj.cells #[.int .i64 0, .int .i64 0, .string ⟨#[]⟩, .slice none 0 0] 40)).alloc (by simp) (Obj.cells #[.int .i64 0, .int .i64 0, .string ⟨#[]⟩, .slice none 0 0] 40)).trans (h1.mono (by simp; omega)))
  have X1 := Lib.hid ((h1.block w.heap.size (by simp; omega)).trans ((Below.heap_alloc (w.alloc (Obj.cells #[.int .i64 0, .int .i64 0, .string ⟨#[]⟩, .slice none 0 0] 40)) (Obj.cells #[.int .i64 0, .int .i64 0, .string ⟨#[]⟩, .slice none 0 0] 40) w.heap.size (by simp)).trans (heap_alloc_new w _)))
  have Y1 := Lib.hid ((h1.block (w.heap.size + 1) (by simp)).trans ((congrArg _ (by simp)).trans (heap_alloc_new (w.alloc (Obj.cells #[.int .i64 0, .int .i64 0, .string ⟨#[]⟩, .slice none 0 0] 40)) (Obj.cells #[.int .i64 0, .int .i64 0, .string ⟨#[]⟩, .slice none 0 0] 40))))
  obtain ⟨W1, hW1⟩ : ∃ W1, W1 = w1.alloc (Obj.cells #[.int .i64 k, .int .i64 n, .string tx, .slice A m c] 40) := ⟨_, rfl⟩
  have BA := (Below.refl w1.heap.size w1).alloc (Nat.le_refl _) (Obj.cells #[.int .i64 k, .int .i64 n, .string tx, .slice A m c] 40)
  rw [← hW1] at BA
  have XW := Lib.hid ((BA.block _ (heap_lt X1.out)).trans X1.out)
  have YW := Lib.hid ((BA.block _ (heap_lt Y1.out)).trans Y1.out)
  have BW := Lib.hid (B0.out.trans (BA.mono B0.out.size))
  have TW := Lib.hid ((ht.below BA).more (S' := fun b => w.heap.size + 1 < b) fun b hb => by
    have h9 : ((w.alloc (Obj.cells #[.int .i64 0, .int .i64 0, .string ⟨#[]⟩, .slice none 0 0] 40)).alloc (Obj.cells #[.int .i64 0, .int .i64 0, .string ⟨#[]⟩, .slice none 0 0] 40)).heap.size ≤ b := hb
    simp at h9
    omega)
  have OK := Lib.hid (show t.ok from ⟨hgd, hnd⟩)
  have hlw1 : w.heap.size + 2 ≤ w1.heap.size := heap_lt Y1.out
  have hbox : W1.heap[w1.heap.size]? = some (.cells #[.int .i64 k, .int .i64 n, .string tx, .slice A m c] 40 (0, 0)) := by rw [hW1]; exact heap_alloc_new _ _
  have hgl := heap_lt hbox
  have l0 := heap_lt XW.out
  have l1 := heap_lt YW.out
  obtain ⟨b0, b1, b2, b3⟩ := box4 hbox
  obtain ⟨x0, x1, x2, x3⟩ := box4 XW.out
  obtain ⟨y0, y1, y2, y3⟩ := box4 YW.out
  have xf : ∀ j, W1.frozen? ⟨w.heap.size, j, none⟩ = false := fun j => by simp [World.frozen?, XW.out]
  have yf : ∀ j, W1.frozen? ⟨w.heap.size + 1, j, none⟩ = false := fun j => by simp [World.frozen?, YW.out]
  clear h1 ht hgd hnd BA X1 Y1 hbox B0
  by_cases hall : k = 4 ∧ tx.toList = [61] ∧ m = 2
  · obtain ⟨rfl, hk2, rfl⟩ := hall
    have ht := TW.out
    obtain ⟨fa, hfa⟩ := ht.shape
    have hok := OK.out
    rw [hfa] at ht hok
    obtain ⟨_, _, e9, _, _, hx⟩ := ht
    injection e9 with e9
    simp only [Array.mk.injEq, List.cons.injEq, and_true] at e9
    obtain ⟨_, _, _, e9⟩ := e9
    injection e9 with e91 _ e92
    subst e91; subst e92
    obtain ⟨ga, cs, f, rfl, hga, hgb, hc⟩ := hx (by omega)
    obtain ⟨t0, t1, t2, t3, c0, c1, c2, c3, ta⟩ := hc 0 (by omega)
    obtain ⟨u0, u1, u2, U0, um, uc, he⟩ := ta.agg
    injection he with he
    simp only [Array.mk.injEq, List.cons.injEq, and_true] at he
    obtain ⟨rfl, rfl, rfl, rfl⟩ := he
    obtain ⟨t0, t1, t2, t3, d0, d1, d2, d3, tb⟩ := hc 1 (by omega)
    obtain ⟨v0, v1, v2, V0, vm, vc, he⟩ := tb.agg
    injection he with he
    simp only [Array.mk.injEq, List.cons.injEq, and_true] at he
    obtain ⟨rfl, rfl, rfl, rfl⟩ := he
    have hgal := heap_lt hgb
    have r := fun (j : Nat) => cell_of_row W1 ga j _ _ _ hgb
    have c0' := (r _).trans c0
    have c1' := (r _).trans c1
    have c2' := (r _).trans c2
    have c3' := (r _).trans c3
    have d0' := (r _).trans d0
    have d1' := (r _).trans d1
    have d2' := (r _).trans d2
    have d3' := (r _).trans d3
    simp only [Nat.mul_zero, Nat.zero_add, Nat.mul_one] at c0' c1' c2' c3' d0' d1' d2' d3'
    have TA := Lib.hid ta
    have TB := Lib.hid tb
    have O0 := Lib.hid (hok.arg (i := 0) (by omega))
    have O1 := Lib.hid (hok.arg (i := 1) (by omega))
    have hga' : w.heap.size + 1 < ga := hga
    clear hfa hok hc r c0 c1 c2 c3 d0 d1 d2 d3 ta tb hgb hga
    have KP := Lib.hid (show ∀ w', Past (w.heap.size + 2) W1 w' → w'.cell? ⟨w1.heap.size, 3, none⟩ = some (.slice (some ⟨ga, 0, none⟩) 2 c) ∧ w'.cell? ⟨ga, 0, none⟩ = some (.int .i64 u0) ∧ w'.cell? ⟨ga, 1, none⟩ = some (.int .i64 u1) ∧ w'.cell? ⟨ga, 2, none⟩ = some (.string u2) ∧ w'.cell? ⟨ga, 3, none⟩ = some (.slice U0 um uc) ∧ w'.cell? ⟨ga, 4, none⟩ = some (.int .i64 v0) ∧ w'.cell? ⟨ga, 5, none⟩ = some (.int .i64 v1) ∧ w'.cell? ⟨ga, 6, none⟩ = some (.string v2) ∧ w'.cell? ⟨ga, 7, none⟩ = some (.slice V0 vm vc) from fun w' hw => by
      have q1 := fun (j : Nat) => World.cell?_of_block (w := W1) (w' := w') (a := ⟨w1.heap.size, j, none⟩) (hw _ hlw1)
      have q2 := fun (j : Nat) => World.cell?_of_block (w := W1) (w' := w') (a := ⟨ga, j, none⟩) (hw _ hga')
      exact ⟨(q1 3).trans b3, (q2 0).trans c0', (q2 1).trans c1', (q2 2).trans c2', (q2 3).trans c3', (q2 4).trans d0', (q2 5).trans d1', (q2 6).trans d2', (q2 7).trans d3'⟩)
    have P := Lib.hid (put_two XW.out YW.out (by omega) (Nat.le_refl _) (Nat.le_succ _) BW.out (.int .i64 u0) (.int .i64 u1) (.string u2) (.slice U0 um uc) (.int .i64 v0) (.int .i64 v1) (.string v2) (.slice V0 vm vc) rfl)
    clear c0' c1' c2' c3' d0' d1' d2' d3'
    go_upto_region 3 with fail
    rw [← hW1]
    clear hW1
    go_region_held3 (fun w' => w'.cell? ⟨w1.heap.size, 3, none⟩ = some (.slice (some ⟨ga, 0, none⟩) 2 c) ∧ w'.cell? ⟨ga, 0, none⟩ = some (.int .i64 u0) ∧ w'.cell? ⟨ga, 1, none⟩ = some (.int .i64 u1) ∧ w'.cell? ⟨ga, 2, none⟩ = some (.string u2) ∧ w'.cell? ⟨ga, 3, none⟩ = some (.slice U0 um uc) ∧ w'.cell? ⟨ga, 4, none⟩ = some (.int .i64 v0) ∧ w'.cell? ⟨ga, 5, none⟩ = some (.int .i64 v1) ∧ w'.cell? ⟨ga, 6, none⟩ = some (.string v2) ∧ w'.cell? ⟨ga, 7, none⟩ = some (.slice V0 vm vc)) ((refine KP.out _ ?_; (repeat (first | (with_reducible exact Past.refl _ _) | (with_reducible refine Past.drew ?_) | (with_reducible refine Past.set0 ?_ _ _) | (with_reducible refine Past.set1 ?_ _ _))); done)) (fail)
    go_wp2_with fail
    obtain ⟨p0, p1, p2, p3⟩ := box4 P.out.1
    obtain ⟨q0, q1, q2, q3⟩ := box4 P.out.2.1
    refine bodyPost_ret (v := .tuple #[.agg #[.int .i64 u0, .int .i64 u1, .string u2, .slice U0 um uc], .agg #[.int .i64 v0, .int .i64 v1, .string v2, .slice V0 vm vc]]) (by simp [results, go_sem, p0, p1, p2, p3, q0, q1, q2, q3]) rfl ?_
    have keep : ∀ {t : T} {v : Value}, TP W1 (fun b => w.heap.size + 1 < b) t v → TP _ (fun _ => True) t v := fun ht => ht.keep fun b cs f hS hh => ⟨(P.out.2.2.1 b (by omega) (by omega)).trans hh, trivial⟩
    exact ⟨⟨_, _, _, _, _, _, _, _, _, _, _, _, _, _, rfl, (keep TA.out).below (Below.refl _ _).drew, (keep TB.out).below (Below.refl _ _).drew, O0.out, O1.out⟩, P.out.2.2.2.drew⟩
  · have KP := Lib.hid (show ∀ w', Past (w.heap.size + 2) W1 w' → w'.cell? ⟨w1.heap.size, 0, none⟩ = some (.int .i64 k) ∧ w'.cell? ⟨w1.heap.size, 1, none⟩ = some (.int .i64 n) ∧ w'.cell? ⟨w1.heap.size, 2, none⟩ = some (.string tx) ∧ w'.cell? ⟨w1.heap.size, 3, none⟩ = some (.slice A m c) from fun w' hw => by
      have q1 := fun (j : Nat) => World.cell?_of_block (w := W1) (w' := w') (a := ⟨w1.heap.size, j, none⟩) (hw _ hlw1)
      exact ⟨(q1 0).trans b0, (q1 1).trans b1, (q1 2).trans b2, (q1 3).trans b3⟩)
    cases ha : (k == 4)
    · clear hall KP
      go_upto_region 4 with fail
      rw [← hW1]
      clear hW1
      go_wp2_with fail
      refine (lvar9_any 0 _).mono ?_
      rintro e w2 ⟨rfl, h2⟩
      have X2 := Lib.hid ((h2.block _ (heap_lt XW.out)).trans XW.out)
      have Y2 := Lib.hid ((h2.block _ (heap_lt YW.out)).trans YW.out)
      have B2 := Lib.hid (BW.out.trans (h2.mono BW.out.size))
      clear h2
      go_wp2_with fail
      refine (lvar9_any 1 _).mono ?_
      rintro e w3 ⟨rfl, h3⟩
      have X3 := Lib.hid ((h3.block _ (heap_lt X2.out)).trans X2.out)
      have Y3 := Lib.hid ((h3.block _ (heap_lt Y2.out)).trans Y2.out)
      have B3 := Lib.hid (B2.out.trans (h3.mono B2.out.size))
      clear h3 x0 x1 x2 x3 y0 y1 y2 y3 xf yf l0 l1
      obtain ⟨x0, x1, x2, x3⟩ := box4 X3.out
      obtain ⟨y0, y1, y2, y3⟩ := box4 Y3.out
      have xf : ∀ j, w3.frozen? ⟨w.heap.size, j, none⟩ = false := fun j => by simp [World.frozen?, X3.out]
      have yf : ∀ j, w3.frozen? ⟨w.heap.size + 1, j, none⟩ = false := fun j => by simp [World.frozen?, Y3.out]
      have l0 := heap_lt X3.out
      have l1 := heap_lt Y3.out
      go_wp2_with fail
      have P := Lib.hid (put_two X3.out Y3.out (by omega) (Nat.le_refl _) (Nat.le_succ _) B3.out (.int .i64 1) (.int .i64 0) (.string ⟨#[]⟩) (.slice none 0 0) (.int .i64 1) (.int .i64 1) (.string ⟨#[]⟩) (.slice none 0 0) rfl)
      obtain ⟨p0, p1, p2, p3⟩ := box4 P.out.1
      obtain ⟨q0, q1, q2, q3⟩ := box4 P.out.2.1
      refine bodyPost_ret (v := .tuple #[.agg #[.int .i64 1, .int .i64 0, .string ⟨#[]⟩, .slice none 0 0], .agg #[.int .i64 1, .int .i64 1, .string ⟨#[]⟩, .slice none 0 0]]) (by simp [results, go_sem, p0, p1, p2, p3, q0, q1, q2, q3]) rfl ?_
      exact ⟨⟨_, _, _, _, _, _, _, _, _, _, _, _, .mk 1 0 ⟨#[]⟩ 0 fun _ => .nil, .mk 1 1 ⟨#[]⟩ 0 fun _ => .nil, rfl, TP.leaf _ _ 1 0 ⟨#[]⟩, TP.leaf _ _ 1 1 ⟨#[]⟩,
        ⟨⟨.inl ⟨rfl, by omega, by omega, rfl, rfl⟩, fun i hi => absurd hi (by omega)⟩, by simp [T.nodes, sumTo]⟩, ⟨⟨.inl ⟨rfl, by omega, by omega, rfl, rfl⟩, fun i hi => absurd hi (by omega)⟩, by simp [T.nodes, sumTo]⟩⟩, P.out.2.2.2⟩
    · cases hb : (tx.toList == [61])
      · clear hall KP
        go_upto_region 4 with fail
        rw [← hW1]
        clear hW1
        go_wp2_with fail
        refine (lvar9_any 0 _).mono ?_
        rintro e w2 ⟨rfl, h2⟩
        have X2 := Lib.hid ((h2.block _ (heap_lt XW.out)).trans XW.out)
        have Y2 := Lib.hid ((h2.block _ (heap_lt YW.out)).trans YW.out)
        have B2 := Lib.hid (BW.out.trans (h2.mono BW.out.size))
        clear h2
        go_wp2_with fail
        refine (lvar9_any 1 _).mono ?_
        rintro e w3 ⟨rfl, h3⟩
        have X3 := Lib.hid ((h3.block _ (heap_lt X2.out)).trans X2.out)
        have Y3 := Lib.hid ((h3.block _ (heap_lt Y2.out)).trans Y2.out)
        have B3 := Lib.hid (B2.out.trans (h3.mono B2.out.size))
        clear h3 x0 x1 x2 x3 y0 y1 y2 y3 xf yf l0 l1
        obtain ⟨x0, x1, x2, x3⟩ := box4 X3.out
        obtain ⟨y0, y1, y2, y3⟩ := box4 Y3.out
        have xf : ∀ j, w3.frozen? ⟨w.heap.size, j, none⟩ = false := fun j => by simp [World.frozen?, X3.out]
        have yf : ∀ j, w3.frozen? ⟨w.heap.size + 1, j, none⟩ = false := fun j => by simp [World.frozen?, Y3.out]
        have l0 := heap_lt X3.out
        have l1 := heap_lt Y3.out
        go_wp2_with fail
        have P := Lib.hid (put_two X3.out Y3.out (by omega) (Nat.le_refl _) (Nat.le_succ _) B3.out (.int .i64 1) (.int .i64 0) (.string ⟨#[]⟩) (.slice none 0 0) (.int .i64 1) (.int .i64 1) (.string ⟨#[]⟩) (.slice none 0 0) rfl)
        obtain ⟨p0, p1, p2, p3⟩ := box4 P.out.1
        obtain ⟨q0, q1, q2, q3⟩ := box4 P.out.2.1
        refine bodyPost_ret (v := .tuple #[.agg #[.int .i64 1, .int .i64 0, .string ⟨#[]⟩, .slice none 0 0], .agg #[.int .i64 1, .int .i64 1, .string ⟨#[]⟩, .slice none 0 0]]) (by simp [results, go_sem, p0, p1, p2, p3, q0, q1, q2, q3]) rfl ?_
        exact ⟨⟨_, _, _, _, _, _, _, _, _, _, _, _, .mk 1 0 ⟨#[]⟩ 0 fun _ => .nil, .mk 1 1 ⟨#[]⟩ 0 fun _ => .nil, rfl, TP.leaf _ _ 1 0 ⟨#[]⟩, TP.leaf _ _ 1 1 ⟨#[]⟩,
          ⟨⟨.inl ⟨rfl, by omega, by omega, rfl, rfl⟩, fun i hi => absurd hi (by omega)⟩, by simp [T.nodes, sumTo]⟩, ⟨⟨.inl ⟨rfl, by omega, by omega, rfl, rfl⟩, fun i hi => absurd hi (by omega)⟩, by simp [T.nodes, sumTo]⟩⟩, P.out.2.2.2⟩
      · have hc2 : ((m : Int) == 2) = false := by
          rw [beq_eq_false_iff_ne]
          exact fun h => hall ⟨by simpa using ha, by simpa using hb, by omega⟩
        clear hall KP
        go_upto_region 4 with fail
        rw [← hW1]
        clear hW1
        go_wp2_with fail
        refine (lvar9_any 0 _).mono ?_
        rintro e w2 ⟨rfl, h2⟩
        have X2 := Lib.hid ((h2.block _ (heap_lt XW.out)).trans XW.out)
        have Y2 := Lib.hid ((h2.block _ (heap_lt YW.out)).trans YW.out)
        have B2 := Lib.hid (BW.out.trans (h2.mono BW.out.size))
        clear h2
        go_wp2_with fail
        refine (lvar9_any 1 _).mono ?_
        rintro e w3 ⟨rfl, h3⟩
        have X3 := Lib.hid ((h3.block _ (heap_lt X2.out)).trans X2.out)
        have Y3 := Lib.hid ((h3.block _ (heap_lt Y2.out)).trans Y2.out)
        have B3 := Lib.hid (B2.out.trans (h3.mono B2.out.size))
        clear h3 x0 x1 x2 x3 y0 y1 y2 y3 xf yf l0 l1
        obtain ⟨x0, x1, x2, x3⟩ := box4 X3.out
        obtain ⟨y0, y1, y2, y3⟩ := box4 Y3.out
        have xf : ∀ j, w3.frozen? ⟨w.heap.size, j, none⟩ = false := fun j => by simp [World.frozen?, X3.out]
        have yf : ∀ j, w3.frozen? ⟨w.heap.size + 1, j, none⟩ = false := fun j => by simp [World.frozen?, Y3.out]
        have l0 := heap_lt X3.out
        have l1 := heap_lt Y3.out
        go_wp2_with fail
        have P := Lib.hid (put_two X3.out Y3.out (by omega) (Nat.le_refl _) (Nat.le_succ _) B3.out (.int .i64 1) (.int .i64 0) (.string ⟨#[]⟩) (.slice none 0 0) (.int .i64 1) (.int .i64 1) (.string ⟨#[]⟩) (.slice none 0 0) rfl)
        obtain ⟨p0, p1, p2, p3⟩ := box4 P.out.1
        obtain ⟨q0, q1, q2, q3⟩ := box4 P.out.2.1
        refine bodyPost_ret (v := .tuple #[.agg #[.int .i64 1, .int .i64 0, .string ⟨#[]⟩, .slice none 0 0], .agg #[.int .i64 1, .int .i64 1, .string ⟨#[]⟩, .slice none 0 0]]) (by simp [results, go_sem, p0, p1, p2, p3, q0, q1, q2, q3]) rfl ?_
        exact ⟨⟨_, _, _, _, _, _, _, _, _, _, _, _, .mk 1 0 ⟨#[]⟩ 0 fun _ => .nil, .mk 1 1 ⟨#[]⟩ 0 fun _ => .nil, rfl, TP.leaf _ _ 1 0 ⟨#[]⟩, TP.leaf _ _ 1 1 ⟨#[]⟩,
          ⟨⟨.inl ⟨rfl, by omega, by omega, rfl, rfl⟩, fun i hi => absurd hi (by omega)⟩, by simp [T.nodes, sumTo]⟩, ⟨⟨.inl ⟨rfl, by omega, by omega, rfl, rfl⟩, fun i hi => absurd hi (by omega)⟩, by simp [T.nodes, sumTo]⟩⟩, P.out.2.2.2⟩
end Go.Proofs.Ytgoedlbdnmhppaa
namespace Go.Proofs.Ytgoedlbdnmhppaa
open Go.RowKit

theorem varT_ok {n : Int} (h0 : 0 ≤ n) (h1 : n < 1000) : (varT n).ok := ⟨⟨.inl ⟨rfl, h0, h1, rfl, rfl⟩, fun i hi => absurd hi (by omega)⟩, by simp [varT, T.nodes, sumTo]⟩
set_option maxRecDepth 100000 in
set_option maxHeartbeats 4000000 in
theorem lsame_any {ns : List Int} {A B : Option Addr} {c d : Nat} {w : World} (ha : IRow w (.slice A ns.length c) ns) (hb : IRow w (.slice B ns.length d) ns) (hl : ns.length ≤ 1000000) :
    Calls Try.prog 33 #[.slice A ns.length c, .slice B ns.length d] w fun e w' => e = .returned (.bool true) ∧ Below w.heap.size w w' := by
  obtain ⟨_, _, e1, ha1, ha2, hax⟩ := ha.open_
  injection e1 with e1 _ e2
  subst e1; subst e2
  obtain ⟨_, _, e1, hb1, hb2, hbx⟩ := hb.open_
  injection e1 with e1 _ e2
  subst e1; subst e2
  have HA := Lib.hid hax
  have HB := Lib.hid hbx
  have hnn : ((ns.length : Int) != (ns.length : Int)) = false := by simp
  clear hax hbx ha hb ha2 hb2
  go_enter Try.func33, Try.ntmps33
  go_wp2_with fail
  go_loopw [5] (fun iv wr => ∃ i : Nat, iv = .int .i64 (i : Int) ∧ i ≤ ns.length ∧ Below w.heap.size w wr) (fun iv _ => ns.length - (intOf iv).toNat)
  case atStart => exact ⟨0, rfl, Nat.zero_le _, Below.refl _ _⟩
  case round =>
    obtain ⟨i, rfl, hi, hb⟩ := hrel
    have HW := Lib.hid hb
    clear hb
    by_cases him : i < ns.length
    · have him' : (i : Int) < (ns.length : Int) := by omega
      obtain ⟨x, hx⟩ : ∃ x, ns[i]? = some x := ⟨_, List.getElem?_eq_getElem him⟩
      obtain ⟨ga, rfl, hgl, ca⟩ := HA.out i x hx
      obtain ⟨gb, rfl, hgl', cb⟩ := HB.out i x hx
      have da := (HW.out.cell (p := ⟨ga, i, none⟩) hgl).trans ca
      have db := (HW.out.cell (p := ⟨gb, i, none⟩) hgl').trans cb
      have hxx : (x != x) = false := by simp
      have hl0 : (0 : Int) ≤ (i : Int) := by omega
      clear ca cb hx
      go_wp2_with fail
      go_quiet (fail)
      go_wp2_with fail
      go_roundw
      case rel => exact ⟨i + 1, by go_num, him, bel_drewN HW.out _⟩
      case measure => simp [intOf]; omega
    · have him' : ¬ (i : Int) < (ns.length : Int) := by omega
      go_wp2_with fail
      go_ret
      exact ⟨rfl, HW.out⟩
/-- A truth value, whichever. -/
def SomeB (w : World) (e : Ending) (w' : World) : Prop := (∃ b : Bool, e = .returned (.bool b)) ∧ Below w.heap.size w w'
set_option maxRecDepth 100000 in
set_option maxHeartbeats 4000000 in
theorem lgreat_any {w : World} {B rb : Nat} {p : PV} {Ps : List PV} {L : Bs} {As : List T} (h : RM w B rb p Ps) (hp : PA w p L As) :
    Calls Try.prog 24 #[.pointer (some ⟨rb, 0, none⟩)] w fun e w' => SomeB w e w' := by
  have H := Lib.hid h
  have HP := Lib.hid hp
  clear h hp
  go_enter Try.func24, Try.ntmps24
  go_wp2_with fail
  go_loopw [3] (fun iv wr => ∃ i : Nat, iv = .int .i64 (i : Int) ∧ i ≤ 12 ∧ Below w.heap.size w wr) (fun iv _ => 12 - (intOf iv).toNat)
  case atStart => exact ⟨0, rfl, Nat.zero_le _, Below.refl _ _⟩
  case round =>
    obtain ⟨i, rfl, hi, hb⟩ := hrel
    have HW := Lib.hid hb
    clear hb
    by_cases him : i < 12
    · have him' : (i : Int) < 12 := by omega
      go_wp2_with fail
      refine (lvar9_any (i : Int) _).mono ?_
      rintro e w5 ⟨rfl, h5⟩
      have H5 := Lib.hid (HW.out.trans (h5.mono HW.out.size))
      clear h5
      have CI := Lib.hid (rsize9_any (H.out.below H5.out) (HP.out.below H5.out) (TP.leaf0 w5 _ 1 (i : Int) _ _ : TP w5 (fun _ => True) (varT (i : Int)) _) (varT_ok (by omega) (by omega)))
      go_wp2_with fail
      refine CI.out.mono ?_
      rintro e w6 ⟨⟨z, rfl⟩, h6⟩
      have H6 := Lib.hid (H5.out.trans (h6.mono H5.out.size))
      clear h6
      by_cases hz : 200 < z
      · go_wp2_with fail
        go_ret
        exact ⟨⟨_, rfl⟩, H6.out⟩
      · go_wp2_with fail
        go_roundw
        case rel => exact ⟨i + 1, by go_num, him, H6.out⟩
        case measure => simp [intOf]; omega
    · have him' : ¬ (i : Int) < 12 := by omega
      go_wp2_with fail
      go_ret
      exact ⟨⟨_, rfl⟩, HW.out⟩
end Go.Proofs.Ytgoedlbdnmhppaa
namespace Go.Proofs.Ytgoedlbdnmhppaa
open Go.RowKit

/-- Two calls, one behind the other: the program's, then the reference's: they say the same, and both stores stand. -/
def PairC (B : Nat) (wr : World) (sb rb : Nat) (C : List CV) (R : List (CV × Nat)) (Hs : List MK) (dC dR dH : Nat) (keep : Nat → Prop) (f1 : FuncId) (as1 : Array Value) (f2 : FuncId) (as2 : Array Value) : Prop :=
  ∃ (z : Int) (C1 : List CV) (R1 : List (CV × Nat)) (Ms : List (Nat × Nat)) (C' : List CV) (R' : List (CV × Nat)) (L' : Bs) (As' : List T) (Hs' : List MK),
    C'.length ≤ C.length + dC ∧ R'.length ≤ R.length + dR ∧ Hs'.length ≤ Hs.length + dH ∧ (∀ (m : Nat) (g : MK), keep m → Hs[m]? = some g → Hs'[m]? = some g) ∧
    (∀ W, Below wr.heap.size wr W → Calls Try.prog f1 as1 W fun e w' => Mid B wr sb C1 R1 Ms (.int .i64 z) e w') ∧
    (∀ w1, SM w1 B sb C1 R1 Ms → SF B wr w1 → ∀ W, Below w1.heap.size w1 W → Calls Try.prog f2 as2 W fun e w' => Both B wr sb rb C' R' L' As' (fun _ => Hs') (.int .i64 z) e w' ∧ RF B rb W w')
section
variable {B : Nat} {wr : World} {sb rb : Nat} {C : List CV} {R : List (CV × Nat)} {p : PV} {L : Bs} {As : List T} {Hs : List MK}
theorem LS.rest {w1 W w' : World} (F : LS B wr sb rb C R p L As Hs) (h1 : SM w1 B sb C R (Hs.map MK.m)) (f1 : SF B wr w1) (hW : Below w1.heap.size w1 W) (g : Below W.heap.size W w') : LS B w' sb rb C R p L As Hs ∧ Below B wr w' ∧ RF B rb W w' := by
  have f2 := f1.then F.size.1 hW
  have hB : B ≤ W.heap.size := Nat.le_trans F.size.1 f2.low.size
  exact ⟨F.still (h1.below hW) f2 ((F.rm.sf f2).below g) ((F.pa.sf f2).below g) (RF.below hB g), f2.low.trans (g.mono hB), RF.below hB g⟩
theorem pair_fresh (F : LS B wr sb rb C R p L As Hs) (hC : C.length ≤ 1000000) (n : Int) : PairC B wr sb rb C R Hs 1000 0 0 (fun _ => True) 12 #[.pointer (some ⟨sb, 0, none⟩), .int .i64 n] 13 #[.pointer (some ⟨rb, 0, none⟩), .int .i64 n] :=
  ⟨(C.length : Int), C ++ List.replicate (fresh n) CV.zero, R, Hs.map MK.m, C ++ List.replicate (fresh n) CV.zero, R, L, As ++ List.replicate (fresh n) noneT, Hs, by have := fresh_le n; simp; omega, Nat.le_refl _, Nat.le_refl _, fun _ _ _ h => h, pfresh1 F hC n, fun w1 h1 f1 W hW => by
    have f2 := f1.then F.size.1 hW
    have hl := F.len.1
    exact (rfresh9_any (F.rm.sf f2) (F.pa.sf f2) (by omega) n).mono fun _ _ ⟨g1, p', g2, g3, g4⟩ => ⟨⟨by rw [g1, hl], p', F.fresh _ (h1.below hW) f2 g2 g3 g4, f2.low.trans g4.low⟩, g4⟩⟩
theorem pair_mark (F : LS B wr sb rb C R p L As Hs) (hM : Hs.length ≤ 1000000) : PairC B wr sb rb C R Hs 0 0 1 (fun _ => True) 10 #[.pointer (some ⟨sb, 0, none⟩)] 11 #[.pointer (some ⟨rb, 0, none⟩)] :=
  ⟨(Hs.length : Int), C, R, Hs.map MK.m ++ [(R.length, C.length)], C, R, L, As, Hs ++ [⟨R.length, C.length, p, C, L, As⟩], Nat.le_refl _, Nat.le_refl _, by simp, fun m g _ h => by rw [List.getElem?_append_left (lt_of_at h)]; exact h, pmark1 F hM, fun w1 h1 f1 W hW => by
    have f2 := f1.then F.size.1 hW
    exact (rmark9_any (F.rm.sf f2) (by simpa using hM)).mono fun _ _ ⟨g1, g2, g3⟩ => ⟨⟨by rw [g1]; simp, p, F.mark (h1.below hW) f2 g2 g3, f2.low.trans g3.low⟩, g3⟩⟩
theorem pair_undo (F : LS B wr sb rb C R p L As Hs) (hR : R.length ≤ 1000000) (hC : C.length ≤ 1000000) (hM : Hs.length ≤ 1000000) (n : Int) : PairC B wr sb rb C R Hs 0 0 0 (fun m => (m : Int) < n) 18 #[.pointer (some ⟨sb, 0, none⟩), .int .i64 n] 19 #[.pointer (some ⟨rb, 0, none⟩), .int .i64 n] := by
  by_cases ho : n < 0 ∨ (Hs.length : Int) ≤ n
  · refine ⟨1, C, R, Hs.map MK.m, C, R, L, As, Hs, Nat.le_refl _, Nat.le_refl _, Nat.le_refl _, fun _ _ _ h => h, fun W hW => (sundo_out (F.below hW).sm (by simpa using ho)).mono ?_, fun w1 h1 f1 W hW => (rundo9_out (F.rm.sf (f1.then F.size.1 hW)) (by simpa using ho)).mono ?_⟩
    · rintro e w' ⟨rfl, rfl⟩
      exact ⟨rfl, (F.below hW).sm, SF.below F.size.1 hW⟩
    · rintro e w' ⟨rfl, rfl⟩
      have := F.rest h1 f1 hW (Below.refl _ _)
      exact ⟨⟨rfl, p, this.1, this.2.1⟩, this.2.2⟩
  · obtain ⟨k, rfl⟩ : ∃ k : Nat, n = (k : Int) := ⟨n.toNat, by omega⟩
    obtain ⟨g, hg⟩ : ∃ g, Hs[k]? = some g := ⟨_, List.getElem?_eq_getElem (by omega)⟩
    have hp := F.hp k g hg
    exact ⟨0, (backC C (R.drop g.r)).take g.v, R.take g.r, (Hs.map MK.m).take (k + 1), g.C, R.take g.r, g.L, g.A, Hs.take (k + 1), by have := hp.len; have := hp.v; omega, by simp; omega, by simp; omega, fun m x hm hx => by rw [List.getElem?_take, if_pos (by omega)]; exact hx, pundo1 F hR hC hM hg, fun w1 h1 f1 W hW => by
      have f2 := f1.then F.size.1 hW
      exact (rundo9_in (q := g.q) (F.rm.sf f2) (by simpa using hM) (by rw [List.getElem?_map, hg]; rfl)).mono fun _ _ ⟨g1, g2, g3⟩ => ⟨⟨g1, g.q, F.undo hg (h1.below hW) f2 g2 g3, f2.low.trans g3.low⟩, g3⟩⟩
theorem pair_set (F : LS B wr sb rb C R p L As Hs) (hR : R.length ≤ 1000000) (hC : C.length ≤ 1000000) (n : Int) {a : T} (u : TV) (hu : TP wr (fun _ => True) a (.agg #[.int .i64 u.k, .int .i64 u.n, .string u.s, .slice u.A u.m u.c])) (ha : a.aok) :
    PairC B wr sb rb C R Hs 0 1 0 (fun _ => True) 21 #[.pointer (some ⟨sb, 0, none⟩), .int .i64 n, .agg #[.int .i64 u.k, .int .i64 u.n, .string u.s, .slice u.A u.m u.c]] 35 #[.pointer (some ⟨rb, 0, none⟩), .int .i64 n, .agg #[.int .i64 u.k, .int .i64 u.n, .string u.s, .slice u.A u.m u.c]] := by
  have hlen := F.len
  by_cases ho : n < 0 ∨ (C.length : Int) ≤ n
  · refine ⟨1, C, R, Hs.map MK.m, C, R, L, As, Hs, Nat.le_refl _, Nat.le_succ _, Nat.le_refl _, fun _ _ _ h => h, fun W hW => (sset_out (F.below hW).sm ho u).mono ?_, fun w1 h1 f1 W hW => (rset9_out (F.rm.sf (f1.then F.size.1 hW)) (by omega) u).mono ?_⟩
    · rintro e w' ⟨rfl, hb⟩
      have hb' := hW.trans (hb.mono hW.size)
      exact ⟨rfl, (F.below hb').sm, SF.below F.size.1 hb'⟩
    · rintro e w' ⟨rfl, hb⟩
      have := F.rest h1 f1 hW hb
      exact ⟨⟨rfl, p, this.1, this.2.1⟩, this.2.2⟩
  · obtain ⟨k, rfl⟩ : ∃ k : Nat, n = (k : Int) := ⟨n.toNat, by omega⟩
    obtain ⟨c, hc⟩ := at_of_lt (C := C) (n := k) (by omega)
    have hcb := F.cl.bound hc
    cases hb0 : c.b
    · rw [hb0] at hcb
      refine ⟨0, C.set k ⟨false, c.to, u⟩, R ++ [(c, k)], Hs.map MK.m, C.set k ⟨false, c.to, u⟩, R ++ [(c, k)], L, As.set k a, Hs, by simp, by simp, Nat.le_refl _, fun _ _ _ h => h, fun W hW => (sset_in (F.below hW).sm hR hc u).mono ?_, fun w1 h1 f1 W hW => ?_⟩
      · rintro e w' h
        rcases h with ⟨h, _⟩ | ⟨_, rfl, h2, h3⟩
        · rw [hb0] at h; cases h
        · exact ⟨rfl, h2, (SF.below F.size.1 hW).trans h3⟩
      · have f2 := f1.then F.size.1 hW
        refine (rset9_in (F.rm.sf f2) (F.pa.sf f2) (by omega) (by omega) hcb.symm (hu.sf f2) ha).mono ?_
        rintro e w' ⟨rfl, p', h2, h3, h4⟩
        exact ⟨⟨rfl, p', F.set hc hb0 hu ha (h1.below hW) f2 h2 h3 h4, f2.low.trans h4.low⟩, h4⟩
    · rw [hb0] at hcb
      refine ⟨1, C, R, Hs.map MK.m, C, R, L, As, Hs, Nat.le_refl _, Nat.le_succ _, Nat.le_refl _, fun _ _ _ h => h, fun W hW => (sset_in (F.below hW).sm hR hc u).mono ?_, fun w1 h1 f1 W hW => (rset9_bound (F.rm.sf (f1.then F.size.1 hW)) (F.pa.sf (f1.then F.size.1 hW)) (by omega) (by omega) hcb.symm u).mono ?_⟩
      · rintro e w' h
        rcases h with ⟨_, rfl, h2⟩ | ⟨h, _⟩
        · have hb' := hW.trans (h2.mono hW.size)
          exact ⟨rfl, (F.below hb').sm, SF.below F.size.1 hb'⟩
        · rw [hb0] at h; cases h
      · rintro e w' ⟨rfl, hb⟩
        have := F.rest h1 f1 hW hb
        exact ⟨⟨rfl, p, this.1, this.2.1⟩, this.2.2⟩
end
end Go.Proofs.Ytgoedlbdnmhppaa
namespace Go.Proofs.Ytgoedlbdnmhppaa
open Go.RowKit
attribute [local go_sem ↓] Go.wp_at_zero Go.wp_at_succ

/-- What a step leaves: both stores stand, and have grown by little. -/
def StepQ (B : Nat) (w : World) (sb rb : Nat) (C : List CV) (R : List (CV × Nat)) (Hs : List MK) (k n : Int) (e : Ending) (w' : World) : Prop :=
  e = .returned (.bool true) ∧ ∃ (C' : List CV) (R' : List (CV × Nat)) (p' : PV) (L' : Bs) (As' : List T) (Hs' : List MK), C'.length ≤ C.length + 1000 ∧ (k ≠ 0 → C'.length ≤ C.length) ∧ R'.length ≤ R.length + 2000 ∧ Hs'.length ≤ Hs.length + 1 ∧
    (∀ (m : Nat) (g : MK), (k = 4 → (m : Int) < n) → Hs[m]? = some g → Hs'[m]? = some g) ∧ LS B w' sb rb C' R' p' L' As' Hs' ∧ Below B w w' ∧ Kb rb w w' ∧ (k ≠ 3 → Hs'.length ≤ Hs.length)
theorem SF.box {B : Nat} {w w' : World} (h : SF B w w') {g : Nat} {cs : Array Value} {f : Nat × Nat} {ty : TypeId} (hg : w.heap[g]? = some (.cells cs ty f)) (ht : ty = 50 ∨ ty = 40) : w'.heap[g]? = some (.cells cs ty f) := h.far g _ hg (notSt_of (by rcases ht with rfl | rfl <;> decide))
theorem RF.box {B rb : Nat} {w w' : World} (h : RF B rb w w') {g : Nat} {cs : Array Value} {f : Nat × Nat} {ty : TypeId} (hg : w.heap[g]? = some (.cells cs ty f)) (ht : ty = 50 ∨ ty = 40) : w'.heap[g]? = some (.cells cs ty f) := h.far g _ hg (notRf_of (by rcases ht with rfl | rfl <;> decide))
theorem box3s {w : World} {g : Nat} {t : TypeId} {f : Nat × Nat} {a b c : Value} (h : w.heap[g]? = some (.cells #[a, b, c] t f)) :
    w.cell? ⟨g, 0, none⟩ = some a ∧ w.cell? ⟨g, 1, none⟩ = some b ∧ w.cell? ⟨g, 2, none⟩ = some c :=
  ⟨cell_of_row w g 0 _ _ _ h, cell_of_row w g 1 _ _ _ h, cell_of_row w g 2 _ _ _ h⟩
section
variable {B : Nat} {w : World} {sb rb : Nat} {C : List CV} {R : List (CV × Nat)} {p : PV} {L : Bs} {As : List T} {Hs : List MK}
set_option maxRecDepth 100000 in
set_option maxHeartbeats 8000000 in
theorem step_fresh (F : LS B w sb rb C R p L As Hs) (hC : C.length ≤ 1000000) (n : Int) (s : ByteArray) :
    Calls Try.prog 23 #[.pointer (some ⟨sb, 0, none⟩), .pointer (some ⟨rb, 0, none⟩), .agg #[.int .i64 0, .int .i64 n, .string s]] w fun e w' => StepQ B w sb rb C R Hs 0 n e w' := by
  have B1 := Lib.hid (belS (Below.refl w.heap.size w) (Obj.cells #[.int .i64 0, .int .i64 n, .string s] 50))
  have hbx := heap_alloc_new w (Obj.cells #[.int .i64 0, .int .i64 n, .string s] 50)
  obtain ⟨x0, x1, x2⟩ := box3s hbx
  have hl := heap_lt hbx
  have F1 := Lib.hid (F.below B1.out)
  have HSZ := Lib.hid F.size.1
  obtain ⟨z, C1, R1, Ms, C', R', L', As', Hs', b1, b2, b3, b4, c1, c2⟩ := pair_fresh F1.out hC n
  have K1 := Lib.hid c1
  have K2 := Lib.hid c2
  have KX := Lib.hid (show ∀ W : World, W.heap[w.heap.size]? = some (Obj.cells #[.int .i64 0, .int .i64 n, .string s] 50 (0, 0)) → W.cell? ⟨w.heap.size, 1, none⟩ = some (.int .i64 n) from fun W h => (box3s h).2.1)
  have HX := Lib.hid hbx
  have BD := Lib.hid (And.intro b1 (And.intro b2 (And.intro b3 b4)))
  clear F c1 c2 hbx b1 b2 b3 b4
  go_enter Try.func23, Try.ntmps23
  go_wp2_with fail
  go_region_held3 (fun w' => w'.cell? ⟨w.heap.size, 1, none⟩ = some (.int .i64 n))
    ((first | exact KX.out _ HX.out | exact KX.out _ xa | exact KX.out _ xb))
    ((first
    | (go_at_call 12; (with_reducible refine (K1.out _ (by (repeat (first | (with_reducible exact Below.refl _ _) | (with_reducible refine Below.drew ?_))))).mono ?_); rintro e wa ⟨rfl, hsa, hfa⟩; have xa := hfa.box HX.out (.inl rfl))
    | (go_at_call 13; (with_reducible refine (K2.out _ hsa hfa _ (by (repeat (first | (with_reducible exact Below.refl _ _) | (with_reducible refine Below.drew ?_))))).mono ?_); rintro e wb ⟨⟨rfl, pb, hFb, hbb⟩, hrb⟩; have xb := hrb.box xa (.inl rfl))))
  go_wp2_with fail
  go_ret
  obtain ⟨b1, b2, b3, b4⟩ := BD.out
  have hbw := (B1.out.mono HSZ.out).trans hbb
  have hkb : Kb rb w wb := Kb.trans (Below.kb B1.out) (Kb.trans (SF.kb hfa) (by with_reducible first | exact RF.kb hrb | exact Kb.undrew (RF.kb hrb) | exact Kb.undrew (Kb.undrew (RF.kb hrb))))
  exact ⟨rfl, C', R', pb, L', As', Hs', by omega, fun h => absurd rfl h, by omega, by omega, fun m g hk hg => b4 m g trivial hg, by first | exact hFb | exact hFb.below (Below.refl _ _).drew, by first | exact hbw | exact hbw.drew, by with_reducible first | exact hkb | exact hkb.drew, fun _ => by omega⟩
set_option maxRecDepth 100000 in
set_option maxHeartbeats 8000000 in
theorem step_mark (F : LS B w sb rb C R p L As Hs) (hM : Hs.length ≤ 1000000) (n : Int) (s : ByteArray) :
    Calls Try.prog 23 #[.pointer (some ⟨sb, 0, none⟩), .pointer (some ⟨rb, 0, none⟩), .agg #[.int .i64 3, .int .i64 n, .string s]] w fun e w' => StepQ B w sb rb C R Hs 3 n e w' := by
  have B1 := Lib.hid (belS (Below.refl w.heap.size w) (Obj.cells #[.int .i64 3, .int .i64 n, .string s] 50))
  have hbx := heap_alloc_new w (Obj.cells #[.int .i64 3, .int .i64 n, .string s] 50)
  obtain ⟨x0, x1, x2⟩ := box3s hbx
  have hl := heap_lt hbx
  have F1 := Lib.hid (F.below B1.out)
  have HSZ := Lib.hid F.size.1
  obtain ⟨z, C1, R1, Ms, C', R', L', As', Hs', b1, b2, b3, b4, c1, c2⟩ := pair_mark F1.out hM
  have K1 := Lib.hid c1
  have K2 := Lib.hid c2
  have KX := Lib.hid (show ∀ W : World, W.heap[w.heap.size]? = some (Obj.cells #[.int .i64 3, .int .i64 n, .string s] 50 (0, 0)) → W.cell? ⟨w.heap.size, 1, none⟩ = some (.int .i64 n) from fun W h => (box3s h).2.1)
  have HX := Lib.hid hbx
  have BD := Lib.hid (And.intro b1 (And.intro b2 (And.intro b3 b4)))
  clear F c1 c2 hbx b1 b2 b3 b4
  go_enter Try.func23, Try.ntmps23
  go_wp2_with fail
  refine (K1.out _ (Below.refl _ _)).mono ?_
  rintro e wa ⟨rfl, hsa, hfa⟩
  go_wp2_with fail
  refine (K2.out _ hsa hfa _ (Below.refl _ _)).mono ?_
  rintro e wb ⟨⟨rfl, pb, hFb, hbb⟩, hrb⟩
  go_wp2_with fail
  go_ret
  obtain ⟨b1, b2, b3, b4⟩ := BD.out
  have hbw := (B1.out.mono HSZ.out).trans hbb
  have hkb : Kb rb w wb := Kb.trans (Below.kb B1.out) (Kb.trans (SF.kb hfa) (by with_reducible first | exact RF.kb hrb | exact Kb.undrew (RF.kb hrb) | exact Kb.undrew (Kb.undrew (RF.kb hrb))))
  exact ⟨rfl, C', R', pb, L', As', Hs', by omega, fun _ => by omega, by omega, by omega, fun m g hk hg => b4 m g trivial hg, by first | exact hFb | exact hFb.below (Below.refl _ _).drew, by first | exact hbw | exact hbw.drew, by with_reducible first | exact hkb | exact hkb.drew, fun h => absurd rfl h⟩
set_option maxRecDepth 100000 in
set_option maxHeartbeats 8000000 in
theorem step_undo (F : LS B w sb rb C R p L As Hs) (hC : C.length ≤ 1000000) (hR : R.length ≤ 1000000) (hM : Hs.length ≤ 1000000) (n : Int) (s : ByteArray) :
    Calls Try.prog 23 #[.pointer (some ⟨sb, 0, none⟩), .pointer (some ⟨rb, 0, none⟩), .agg #[.int .i64 4, .int .i64 n, .string s]] w fun e w' => StepQ B w sb rb C R Hs 4 n e w' := by
  have B1 := Lib.hid (belS (Below.refl w.heap.size w) (Obj.cells #[.int .i64 4, .int .i64 n, .string s] 50))
  have hbx := heap_alloc_new w (Obj.cells #[.int .i64 4, .int .i64 n, .string s] 50)
  obtain ⟨x0, x1, x2⟩ := box3s hbx
  have hl := heap_lt hbx
  have F1 := Lib.hid (F.below B1.out)
  have HSZ := Lib.hid F.size.1
  obtain ⟨z, C1, R1, Ms, C', R', L', As', Hs', b1, b2, b3, b4, c1, c2⟩ := pair_undo F1.out hR hC hM n
  have K1 := Lib.hid c1
  have K2 := Lib.hid c2
  have KX := Lib.hid (show ∀ W : World, W.heap[w.heap.size]? = some (Obj.cells #[.int .i64 4, .int .i64 n, .string s] 50 (0, 0)) → W.cell? ⟨w.heap.size, 1, none⟩ = some (.int .i64 n) from fun W h => (box3s h).2.1)
  have HX := Lib.hid hbx
  have BD := Lib.hid (And.intro b1 (And.intro b2 (And.intro b3 b4)))
  clear F c1 c2 hbx b1 b2 b3 b4
  go_enter Try.func23, Try.ntmps23
  go_wp2_with fail
  go_region_held3 (fun w' => w'.cell? ⟨w.heap.size, 1, none⟩ = some (.int .i64 n))
    ((first | exact KX.out _ HX.out | exact KX.out _ xa | exact KX.out _ xb))
    ((first
    | (go_at_call 18; (with_reducible refine (K1.out _ (by (repeat (first | (with_reducible exact Below.refl _ _) | (with_reducible refine Below.drew ?_))))).mono ?_); rintro e wa ⟨rfl, hsa, hfa⟩; have xa := hfa.box HX.out (.inl rfl))
    | (go_at_call 19; (with_reducible refine (K2.out _ hsa hfa _ (by (repeat (first | (with_reducible exact Below.refl _ _) | (with_reducible refine Below.drew ?_))))).mono ?_); rintro e wb ⟨⟨rfl, pb, hFb, hbb⟩, hrb⟩; have xb := hrb.box xa (.inl rfl))))
  go_wp2_with fail
  go_ret
  obtain ⟨b1, b2, b3, b4⟩ := BD.out
  have hbw := (B1.out.mono HSZ.out).trans hbb
  have hkb : Kb rb w wb := Kb.trans (Below.kb B1.out) (Kb.trans (SF.kb hfa) (by with_reducible first | exact RF.kb hrb | exact Kb.undrew (RF.kb hrb) | exact Kb.undrew (Kb.undrew (RF.kb hrb))))
  exact ⟨rfl, C', R', pb, L', As', Hs', by omega, fun _ => by omega, by omega, by omega, fun m g hk hg => b4 m g (hk rfl) hg, by first | exact hFb | exact hFb.below (Below.refl _ _).drew, by first | exact hbw | exact hbw.drew, by with_reducible first | exact hkb | exact hkb.drew, fun _ => by omega⟩
set_option maxRecDepth 100000 in
set_option maxHeartbeats 8000000 in
theorem step_none (F : LS B w sb rb C R p L As Hs) (hC : C.length ≤ 1000000) (hR : R.length ≤ 1000000) (n : Int) (s : ByteArray) :
    Calls Try.prog 23 #[.pointer (some ⟨sb, 0, none⟩), .pointer (some ⟨rb, 0, none⟩), .agg #[.int .i64 5, .int .i64 n, .string s]] w fun e w' => StepQ B w sb rb C R Hs 5 n e w' := by
  have B1 := Lib.hid (belS (Below.refl w.heap.size w) (Obj.cells #[.int .i64 5, .int .i64 n, .string s] 50))
  have hbx := heap_alloc_new w (Obj.cells #[.int .i64 5, .int .i64 n, .string s] 50)
  obtain ⟨x0, x1, x2⟩ := box3s hbx
  have hl := heap_lt hbx
  have F1 := Lib.hid (F.below B1.out)
  have HSZ := Lib.hid F.size.1
  obtain ⟨z, C1, R1, Ms, C', R', L', As', Hs', b1, b2, b3, b4, c1, c2⟩ := pair_set F1.out hR hC n TV.zero (TP.leaf0 _ _ 0 0 ⟨#[]⟩ _ : TP _ (fun _ => True) noneT _) (.inr rfl)
  simp only [TV.zero] at c1 c2
  have K1 := Lib.hid c1
  have K2 := Lib.hid c2
  have KX := Lib.hid (show ∀ W : World, W.heap[w.heap.size]? = some (Obj.cells #[.int .i64 5, .int .i64 n, .string s] 50 (0, 0)) → W.cell? ⟨w.heap.size, 1, none⟩ = some (.int .i64 n) from fun W h => (box3s h).2.1)
  have HX := Lib.hid hbx
  have BD := Lib.hid (And.intro b1 (And.intro b2 (And.intro b3 b4)))
  clear F c1 c2 hbx b1 b2 b3 b4
  go_enter Try.func23, Try.ntmps23
  go_wp2_with fail
  go_region_held3 (fun w' => w'.cell? ⟨w.heap.size, 1, none⟩ = some (.int .i64 n))
    ((first | exact KX.out _ HX.out | exact KX.out _ xa | exact KX.out _ xb))
    ((first
    | (go_at_call 21; (with_reducible refine (K1.out _ (by (repeat (first | (with_reducible exact Below.refl _ _) | (with_reducible refine Below.drew ?_))))).mono ?_); rintro e wa ⟨rfl, hsa, hfa⟩; have xa := hfa.box HX.out (.inl rfl))
    | (go_at_call 35; (with_reducible refine (K2.out _ hsa hfa _ (by (repeat (first | (with_reducible exact Below.refl _ _) | (with_reducible refine Below.drew ?_))))).mono ?_); rintro e wb ⟨⟨rfl, pb, hFb, hbb⟩, hrb⟩; have xb := hrb.box xa (.inl rfl))))
  go_wp2_with fail
  go_ret
  obtain ⟨b1, b2, b3, b4⟩ := BD.out
  have hbw := (B1.out.mono HSZ.out).trans hbb
  have hkb : Kb rb w wb := Kb.trans (Below.kb B1.out) (Kb.trans (SF.kb hfa) (by with_reducible first | exact RF.kb hrb | exact Kb.undrew (RF.kb hrb) | exact Kb.undrew (Kb.undrew (RF.kb hrb))))
  exact ⟨rfl, C', R', pb, L', As', Hs', by omega, fun _ => by omega, by omega, by omega, fun m g hk hg => b4 m g trivial hg, by first | exact hFb | exact hFb.below (Below.refl _ _).drew, by first | exact hbw | exact hbw.drew, by with_reducible first | exact hkb | exact hkb.drew, fun _ => by omega⟩
set_option maxRecDepth 100000 in
set_option maxHeartbeats 8000000 in
theorem step_other (F : LS B w sb rb C R p L As Hs) (k n : Int) (s : ByteArray) (h0 : k ≠ 0) (h1 : k ≠ 1) (h2 : k ≠ 2) (h3 : k ≠ 3) (h4 : k ≠ 4) (h5 : k ≠ 5) :
    Calls Try.prog 23 #[.pointer (some ⟨sb, 0, none⟩), .pointer (some ⟨rb, 0, none⟩), .agg #[.int .i64 k, .int .i64 n, .string s]] w fun e w' => StepQ B w sb rb C R Hs k n e w' := by
  have B1 := Lib.hid (belS (Below.refl w.heap.size w) (Obj.cells #[.int .i64 k, .int .i64 n, .string s] 50))
  have F1 := Lib.hid (F.below B1.out)
  have HSZ := Lib.hid F.size.1
  have e0 : (k == 0) = false := beq_eq_false_iff_ne.mpr h0
  have e1 : (k == 1) = false := beq_eq_false_iff_ne.mpr h1
  have e2 : (k == 2) = false := beq_eq_false_iff_ne.mpr h2
  have e3 : (k == 3) = false := beq_eq_false_iff_ne.mpr h3
  have e4 : (k == 4) = false := beq_eq_false_iff_ne.mpr h4
  have e5 : (k == 5) = false := beq_eq_false_iff_ne.mpr h5
  clear F h0 h1 h2 h3 h4 h5
  go_enter Try.func23, Try.ntmps23
  go_wp2_with fail
  go_ret
  exact ⟨rfl, C, R, p, L, As, Hs, by omega, fun _ => Nat.le_refl _, by omega, by omega, fun _ _ _ h => h, F1.out, B1.out.mono HSZ.out, Below.kb B1.out, fun _ => Nat.le_refl _⟩
end
end Go.Proofs.Ytgoedlbdnmhppaa
namespace Go.Proofs.Ytgoedlbdnmhppaa
open Go.RowKit
attribute [local go_sem ↓] Go.wp_at_zero Go.wp_at_succ
section
variable {B : Nat} {w : World} {sb rb : Nat} {C : List CV} {R : List (CV × Nat)} {p : PV} {L : Bs} {As : List T} {Hs : List MK}
set_option maxRecDepth 100000 in
set_option maxHeartbeats 8000000 in
theorem step_set (F : LS B w sb rb C R p L As Hs) (hC : C.length ≤ 1000000) (hR : R.length ≤ 1000000) (n : Int) (s : ByteArray) :
    Calls Try.prog 23 #[.pointer (some ⟨sb, 0, none⟩), .pointer (some ⟨rb, 0, none⟩), .agg #[.int .i64 2, .int .i64 n, .string s]] w fun e w' => StepQ B w sb rb C R Hs 2 n e w' := by
  have B1 := Lib.hid (belS (Below.refl w.heap.size w) (Obj.cells #[.int .i64 2, .int .i64 n, .string s] 50))
  have hbx := heap_alloc_new w (Obj.cells #[.int .i64 2, .int .i64 n, .string s] 50)
  obtain ⟨x0, x1, x2⟩ := box3s hbx
  have hl := heap_lt hbx
  have F1 := Lib.hid (F.below B1.out)
  have HSZ := Lib.hid F.size.1
  have KX := Lib.hid (show ∀ W : World, W.heap[w.heap.size]? = some (Obj.cells #[.int .i64 2, .int .i64 n, .string s] 50 (0, 0)) → W.cell? ⟨w.heap.size, 1, none⟩ = some (.int .i64 n) from fun W h => (box3s h).2.1)
  have HX := Lib.hid hbx
  clear F hbx
  go_enter Try.func23, Try.ntmps23
  go_wp2_with fail
  refine (wone_tp s _).mono ?_
  rintro e w2 ⟨⟨k', n', tx, A, m, c, t, rfl, ht, hgd, hnd⟩, h2⟩
  have B2 := Lib.hid (belS h2 (Obj.cells #[.int .i64 k', .int .i64 n', .string tx, .slice A m c] 40))
  have F2 := Lib.hid (F1.out.below B2.out)
  have HT := Lib.hid ((ht.more (S' := fun _ => True) fun _ _ => trivial).below (belS (Below.refl w2.heap.size w2) (Obj.cells #[.int .i64 k', .int .i64 n', .string tx, .slice A m c] 40)))
  have hx2 := (B2.out.block w.heap.size hl).trans HX.out
  have hy := heap_alloc_new w2 (Obj.cells #[.int .i64 k', .int .i64 n', .string tx, .slice A m c] 40)
  obtain ⟨y0, y1, y2, y3⟩ := box4 hy
  have hl2 := heap_lt hy
  have hl3 := heap_lt hx2
  have z1 := (box3s hx2).2.1
  have HX2 := Lib.hid hx2
  have HY := Lib.hid hy
  have KY := Lib.hid (show ∀ W : World, W.heap[w.heap.size]? = some (Obj.cells #[.int .i64 2, .int .i64 n, .string s] 50 (0, 0)) → W.heap[w2.heap.size]? = some (Obj.cells #[.int .i64 k', .int .i64 n', .string tx, .slice A m c] 40 (0, 0)) →
    W.cell? ⟨w.heap.size, 1, none⟩ = some (.int .i64 n) ∧ W.cell? ⟨w2.heap.size, 0, none⟩ = some (.int .i64 k') ∧ W.cell? ⟨w2.heap.size, 1, none⟩ = some (.int .i64 n') ∧ W.cell? ⟨w2.heap.size, 2, none⟩ = some (.string tx) ∧ W.cell? ⟨w2.heap.size, 3, none⟩ = some (.slice A m c) from fun W h g => ⟨(box3s h).2.1, (box4 g).1, (box4 g).2.1, (box4 g).2.2.1, (box4 g).2.2.2⟩)
  obtain ⟨z, C1, R1, Ms, C', R', L', As', Hs', b1, b2, b3, b4, c1, c2⟩ := pair_set F2.out hR hC n (⟨k', n', tx, A, m, c⟩ : TV) HT.out (.inl ⟨hgd, hnd⟩)
  have K1 := Lib.hid c1
  have K2 := Lib.hid c2
  have BD := Lib.hid (And.intro b1 (And.intro b2 (And.intro b3 b4)))
  have BB := Lib.hid ((B1.out.mono HSZ.out).trans (B2.out.mono (Nat.le_trans HSZ.out B1.out.size)))
  clear c1 c2 b1 b2 b3 b4 h2 ht hgd hnd hx2 hy
  go_wp2_with fail
  go_region_held3 (fun w' => w'.cell? ⟨w.heap.size, 1, none⟩ = some (.int .i64 n) ∧ w'.cell? ⟨w2.heap.size, 0, none⟩ = some (.int .i64 k') ∧ w'.cell? ⟨w2.heap.size, 1, none⟩ = some (.int .i64 n') ∧ w'.cell? ⟨w2.heap.size, 2, none⟩ = some (.string tx) ∧ w'.cell? ⟨w2.heap.size, 3, none⟩ = some (.slice A m c))
    ((first | exact KY.out _ HX2.out HY.out | exact KY.out _ xa ya | exact KY.out _ xb yb))
    ((first
    | (go_at_call 21; (with_reducible refine (K1.out _ (by (repeat (first | (with_reducible exact Below.refl _ _) | (with_reducible refine Below.drew ?_))))).mono ?_); rintro e wa ⟨rfl, hsa, hfa⟩; have xa := hfa.box HX2.out (.inl rfl); have ya := hfa.box HY.out (.inr rfl))
    | (go_at_call 35; (with_reducible refine (K2.out _ hsa hfa _ (by (repeat (first | (with_reducible exact Below.refl _ _) | (with_reducible refine Below.drew ?_))))).mono ?_); rintro e wb ⟨⟨rfl, pb, hFb, hbb⟩, hrb⟩; have xb := hrb.box xa (.inl rfl); have yb := hrb.box ya (.inr rfl))))
  go_wp2_with fail
  go_ret
  obtain ⟨b1, b2, b3, b4⟩ := BD.out
  have hbw := BB.out.trans hbb
  have hkb : Kb rb w wb := Kb.trans (Below.kb B1.out) (Kb.trans (Below.kb B2.out) (Kb.trans (SF.kb hfa) (by with_reducible first | exact RF.kb hrb | exact Kb.undrew (RF.kb hrb) | exact Kb.undrew (Kb.undrew (RF.kb hrb)))))
  exact ⟨rfl, C', R', pb, L', As', Hs', by omega, fun _ => by omega, by omega, by omega, fun m g hk hg => b4 m g trivial hg, by first | exact hFb | exact hFb.below (Below.refl _ _).drew, by first | exact hbw | exact hbw.drew, by with_reducible first | exact hkb | exact hkb.drew, fun _ => by omega⟩
end
end Go.Proofs.Ytgoedlbdnmhppaa
namespace Go.Proofs.Ytgoedlbdnmhppaa
open Go.RowKit
attribute [local go_sem ↓] Go.wp_at_zero Go.wp_at_succ
theorem IRow.rf {B rb : Nat} {w w' : World} {v : Value} {ns : List Int} (h : IRow w v ns) (hf : RF B rb w w') : IRow w' v ns := by
  obtain ⟨h1, h2⟩ := h
  refine ⟨h1, ?_⟩
  rcases h2 with h2 | ⟨g, cap, cur, hv, hg, hh, hr⟩
  · exact .inl h2
  · exact .inr ⟨g, cap, cur, hv, hg, hf.far g _ hh (notRf_of (by decide)), hr⟩
section
variable {B : Nat} {w : World} {sb rb : Nat} {C : List CV} {R : List (CV × Nat)} {p : PV} {L : Bs} {As : List T} {Hs : List MK}
set_option maxRecDepth 100000 in
set_option maxHeartbeats 2000000 in
theorem step_unify (F : LS B w sb rb C R p L As Hs) (hC : C.length ≤ 1000000) (hR : R.length ≤ 900000) (n : Int) (s : ByteArray) :
    Calls Try.prog 23 #[.pointer (some ⟨sb, 0, none⟩), .pointer (some ⟨rb, 0, none⟩), .agg #[.int .i64 1, .int .i64 n, .string s]] w fun e w' => StepQ B w sb rb C R Hs 1 n e w' := by
  have B1 := Lib.hid (belS (Below.refl w.heap.size w) (Obj.cells #[.int .i64 1, .int .i64 n, .string s] 50))
  have hbx := heap_alloc_new w (Obj.cells #[.int .i64 1, .int .i64 n, .string s] 50)
  obtain ⟨x0, x1, x2⟩ := box3s hbx
  have hl := heap_lt hbx
  have F1 := Lib.hid (F.below B1.out)
  have HSZ := Lib.hid F.size.1
  clear F hbx
  go_enter Try.func23, Try.ntmps23
  go_wp2_with fail
  refine (sides_any s _).mono ?_
  rintro e w2 ⟨⟨k1, n1, s1, A1, m1, d1, k2, n2, s2, A2, m2, d2, ta, tb, rfl, hta, htb, oa, ob⟩, h2⟩
  have B2 := Lib.hid (belS (belS h2 (Obj.cells #[.int .i64 k1, .int .i64 n1, .string s1, .slice A1 m1 d1] 40)) (Obj.cells #[.int .i64 k2, .int .i64 n2, .string s2, .slice A2 m2 d2] 40))
  have b0 := Lib.hid (belS (belS (Below.refl w2.heap.size w2) (Obj.cells #[.int .i64 k1, .int .i64 n1, .string s1, .slice A1 m1 d1] 40)) (Obj.cells #[.int .i64 k2, .int .i64 n2, .string s2, .slice A2 m2 d2] 40))
  have F2 := Lib.hid (F1.out.below B2.out)
  have HTA := Lib.hid (hta.below b0.out)
  have HTB := Lib.hid (htb.below b0.out)
  have OA := Lib.hid oa
  have OB := Lib.hid ob
  have XA := Lib.hid (show ((w2.alloc (Obj.cells #[.int .i64 k1, .int .i64 n1, .string s1, .slice A1 m1 d1] 40)).alloc (Obj.cells #[.int .i64 k2, .int .i64 n2, .string s2, .slice A2 m2 d2] 40)).heap[w2.heap.size]? = some (.cells #[.int .i64 k1, .int .i64 n1, .string s1, .slice A1 m1 d1] 40 (0, 0)) from
    (Below.heap_alloc _ _ _ (by simp)).trans (heap_alloc_new _ _))
  have XB := Lib.hid (show ((w2.alloc (Obj.cells #[.int .i64 k1, .int .i64 n1, .string s1, .slice A1 m1 d1] 40)).alloc (Obj.cells #[.int .i64 k2, .int .i64 n2, .string s2, .slice A2 m2 d2] 40)).heap[w2.heap.size + 1]? = some (.cells #[.int .i64 k2, .int .i64 n2, .string s2, .slice A2 m2 d2] 40 (0, 0)) from
    (congrArg _ (by simp)).trans (heap_alloc_new _ _))
  obtain ⟨y0, y1, y2, y3⟩ := box4 XA.out
  obtain ⟨z0, z1, z2, z3⟩ := box4 XB.out
  have la := heap_lt XA.out
  have lb := heap_lt XB.out
  have BB := Lib.hid ((B1.out.mono HSZ.out).trans (B2.out.mono (Nat.le_trans HSZ.out B1.out.size)))
  clear h2 hta htb oa ob x0 x1
  by_cases hkn : allV ta (C.length : Int) ∧ allV tb (C.length : Int)
  · obtain ⟨ka, kb⟩ := hkn
    have KA := Lib.hid ka
    have KB := Lib.hid kb
    have CS := Lib.hid (sunify_any F2.out.sm F2.out.cl hR hC HTA.out HTB.out OA.out OB.out ka kb)
    clear ka kb
    cases hr : uniF 2000 L [(ta, tb)] with
    | ok L1 fu =>
      have HR := Lib.hid hr
      rw [hr] at CS
      clear hr
      go_wp2_with fail
      refine CS.out.mono ?_
      rintro e w3 ⟨⟨v, Ns, C', R', hN, rfl, hir, hs, hc, hg, hgl⟩, hf⟩
      obtain ⟨ks, hks⟩ : ∃ ks, ks = Ns.map Prod.fst := ⟨_, rfl⟩
      rw [← hks] at hir
      have HKS := Lib.hid hks
      clear hks
      obtain ⟨P1, q1, hv, _⟩ := hir.open_
      subst hv
      have XA3 := Lib.hid (hf.box XA.out (.inr rfl))
      have XB3 := Lib.hid (hf.box XB.out (.inr rfl))
      clear y0 y1 y2 y3 z0 z1 z2 z3 la lb
      obtain ⟨y0, y1, y2, y3⟩ := box4 XA3.out
      obtain ⟨z0, z1, z2, z3⟩ := box4 XB3.out
      have la := heap_lt XA3.out
      have lb := heap_lt XB3.out
      have CR := Lib.hid (runify9_any (F2.out.rm.sf hf) (F2.out.pa.sf hf) (HTA.out.sf hf) (HTB.out.sf hf) OA.out OB.out (by rw [F2.out.len.2]; exact KA.out) (by rw [F2.out.len.2]; exact KB.out))
      rw [HR.out] at CR
      have HF := Lib.hid hf
      have HG := Lib.hid (And.intro hg (And.intro hs hc))
      have HN := Lib.hid hN
      have HI := Lib.hid hir
      have hg1 := hg.len
      clear hf hg hs hc hN hir CS
      go_wp2_with fail
      refine CR.out.mono ?_
      rintro e w4 ⟨⟨v', Ns', p', hN', rfl, hir2, hr2, hp2⟩, hf2⟩
      have hNs : Ns' = Ns := List.append_cancel_left (hN'.symm.trans HN.out)
      subst hNs
      rw [← HKS.out] at hir2
      obtain ⟨P2, q2, hv, _⟩ := hir2.open_
      subst hv
      have F4 := Lib.hid (F2.out.unify HG.out.1 HG.out.2.1 HG.out.2.2 HF.out hr2 hp2 hf2)
      have BW := Lib.hid (BB.out.trans (HF.out.low.trans hf2.low))
      have KB4 := Lib.hid (show Kb rb w w4 from Kb.trans (Below.kb B1.out) (Kb.trans (Below.kb B2.out) (Kb.trans (SF.kb HF.out) (RF.kb hf2))))
      have hln : ks.length ≤ 1000000 := by
        rw [HKS.out]
        obtain ⟨R2, rfl, _, h4, _⟩ := HG.out.1.ex
        rw [← h4]
        have := hgl
        simp only [List.length_append, List.length_map] at this ⊢
        omega
      have CE := Lib.hid (lsame_any (HI.out.rf hf2) hir2 hln)
      clear CR hf2 hr2 hp2 hN' hir2 hln
      go_wp2_with fail
      with_reducible refine CE.out.mono ?_
      rintro e w5 ⟨rfl, h5⟩
      go_wp2_with fail
      go_ret
      exact ⟨rfl, C', R', p', _, As, Hs, by omega, fun _ => by omega, hgl, by omega, fun _ _ _ h => h, F4.out.below h5, BW.out.trans (h5.mono F4.out.size.1), Kb.trans KB4.out (Below.kb h5), fun _ => Nat.le_refl _⟩
    | many =>
      have HR := Lib.hid hr
      rw [hr] at CS
      clear hr
      go_wp2_with fail
      refine CS.out.mono ?_
      rintro e w3 ⟨⟨rfl, hs⟩, hf⟩
      have XA3 := Lib.hid (hf.box XA.out (.inr rfl))
      have XB3 := Lib.hid (hf.box XB.out (.inr rfl))
      clear y0 y1 y2 y3 z0 z1 z2 z3 la lb
      obtain ⟨y0, y1, y2, y3⟩ := box4 XA3.out
      obtain ⟨z0, z1, z2, z3⟩ := box4 XB3.out
      have la := heap_lt XA3.out
      have lb := heap_lt XB3.out
      have CR := Lib.hid (runify9_any (F2.out.rm.sf hf) (F2.out.pa.sf hf) (HTA.out.sf hf) (HTB.out.sf hf) OA.out OB.out (by rw [F2.out.len.2]; exact KA.out) (by rw [F2.out.len.2]; exact KB.out))
      rw [HR.out] at CR
      have HF := Lib.hid hf
      have HG := Lib.hid hs
      clear hf hs CS
      go_wp2_with fail
      refine CR.out.mono ?_
      rintro e w4 ⟨⟨rfl, p', hr2, hp2⟩, hf2⟩
      have F4 := Lib.hid (F2.out.still HG.out HF.out hr2 hp2 hf2)
      have BW := Lib.hid (BB.out.trans (HF.out.low.trans hf2.low))
      have KB4 := Lib.hid (show Kb rb w w4 from Kb.trans (Below.kb B1.out) (Kb.trans (Below.kb B2.out) (Kb.trans (SF.kb HF.out) (RF.kb hf2))))
      have CE := Lib.hid (lsame_any (ns := []) (IRow.nil w4) (IRow.nil w4) (by decide))
      clear CR hf2 hr2 hp2
      go_wp2_with fail
      refine CE.out.mono ?_
      rintro e w5 ⟨rfl, h5⟩
      go_wp2_with fail
      go_ret
      exact ⟨rfl, C, R, p', _, As, Hs, by omega, fun _ => by omega, by omega, by omega, fun _ _ _ h => h, F4.out.below h5, BW.out.trans (h5.mono F4.out.size.1), Kb.trans KB4.out (Below.kb h5), fun _ => Nat.le_refl _⟩
    | unlike =>
      have HR := Lib.hid hr
      rw [hr] at CS
      clear hr
      go_wp2_with fail
      refine CS.out.mono ?_
      rintro e w3 ⟨⟨rfl, hs⟩, hf⟩
      have XA3 := Lib.hid (hf.box XA.out (.inr rfl))
      have XB3 := Lib.hid (hf.box XB.out (.inr rfl))
      clear y0 y1 y2 y3 z0 z1 z2 z3 la lb
      obtain ⟨y0, y1, y2, y3⟩ := box4 XA3.out
      obtain ⟨z0, z1, z2, z3⟩ := box4 XB3.out
      have la := heap_lt XA3.out
      have lb := heap_lt XB3.out
      have CR := Lib.hid (runify9_any (F2.out.rm.sf hf) (F2.out.pa.sf hf) (HTA.out.sf hf) (HTB.out.sf hf) OA.out OB.out (by rw [F2.out.len.2]; exact KA.out) (by rw [F2.out.len.2]; exact KB.out))
      rw [HR.out] at CR
      have HF := Lib.hid hf
      have HG := Lib.hid hs
      clear hf hs CS
      go_wp2_with fail
      refine CR.out.mono ?_
      rintro e w4 ⟨⟨rfl, p', hr2, hp2⟩, hf2⟩
      have F4 := Lib.hid (F2.out.still HG.out HF.out hr2 hp2 hf2)
      have BW := Lib.hid (BB.out.trans (HF.out.low.trans hf2.low))
      have KB4 := Lib.hid (show Kb rb w w4 from Kb.trans (Below.kb B1.out) (Kb.trans (Below.kb B2.out) (Kb.trans (SF.kb HF.out) (RF.kb hf2))))
      have CE := Lib.hid (lsame_any (ns := []) (IRow.nil w4) (IRow.nil w4) (by decide))
      clear CR hf2 hr2 hp2
      go_wp2_with fail
      refine CE.out.mono ?_
      rintro e w5 ⟨rfl, h5⟩
      go_wp2_with fail
      go_ret
      exact ⟨rfl, C, R, p', _, As, Hs, by omega, fun _ => by omega, by omega, by omega, fun _ _ _ h => h, F4.out.below h5, BW.out.trans (h5.mono F4.out.size.1), Kb.trans KB4.out (Below.kb h5), fun _ => Nat.le_refl _⟩
  · have CS := Lib.hid (sunify_no F2.out.sm HTA.out HTB.out OA.out OB.out hkn)
    have KN := Lib.hid hkn
    clear hkn
    go_wp2_with fail
    refine CS.out.mono ?_
    rintro e w3 ⟨rfl, h3⟩
    have XA3 := Lib.hid ((h3.block _ la).trans XA.out)
    have XB3 := Lib.hid ((h3.block _ lb).trans XB.out)
    have F3 := Lib.hid (F2.out.below h3)
    have BW := Lib.hid (BB.out.trans (h3.mono F2.out.size.1))
    have KB3 := Lib.hid (show Kb rb w w3 from Kb.trans (Below.kb B1.out) (Kb.trans (Below.kb B2.out) (Below.kb h3)))
    clear y0 y1 y2 y3 z0 z1 z2 z3 la lb
    obtain ⟨y0, y1, y2, y3⟩ := box4 XA3.out
    obtain ⟨z0, z1, z2, z3⟩ := box4 XB3.out
    have la := heap_lt XA3.out
    have lb := heap_lt XB3.out
    have CR := Lib.hid (runify9_no F3.out.rm (HTA.out.below h3) (HTB.out.below h3) OA.out OB.out (by rw [F3.out.len.2]; exact KN.out))
    clear h3 CS
    go_wp2_with fail
    refine CR.out.mono ?_
    rintro e w4 ⟨rfl, h4⟩
    have F4 := Lib.hid (F3.out.below h4)
    have BV := Lib.hid (BW.out.trans (h4.mono F3.out.size.1))
    have KB4 := Lib.hid (show Kb rb w w4 from Kb.trans KB3.out (Below.kb h4))
    have CE := Lib.hid (lsame_any (ns := []) (IRow.nil w4) (IRow.nil w4) (by decide))
    clear CR h4
    go_wp2_with fail
    refine CE.out.mono ?_
    rintro e w5 ⟨rfl, h5⟩
    go_wp2_with fail
    go_ret
    exact ⟨rfl, C, R, p, L, As, Hs, by omega, fun _ => by omega, by omega, by omega, fun _ _ _ h => h, F4.out.below h5, BV.out.trans (h5.mono F4.out.size.1), Kb.trans KB4.out (Below.kb h5), fun _ => Nat.le_refl _⟩
theorem step_any (F : LS B w sb rb C R p L As Hs) (hC : C.length ≤ 1000000) (hR : R.length ≤ 900000) (hM : Hs.length ≤ 1000000) (k n : Int) (s : ByteArray) :
    Calls Try.prog 23 #[.pointer (some ⟨sb, 0, none⟩), .pointer (some ⟨rb, 0, none⟩), .agg #[.int .i64 k, .int .i64 n, .string s]] w fun e w' => StepQ B w sb rb C R Hs k n e w' := by
  by_cases h0 : k = 0
  · subst h0; exact step_fresh F hC n s
  by_cases h1 : k = 1
  · subst h1; exact step_unify F hC hR n s
  by_cases h2 : k = 2
  · subst h2; exact step_set F hC (by omega) n s
  by_cases h3 : k = 3
  · subst h3; exact step_mark F hM n s
  by_cases h4 : k = 4
  · subst h4; exact step_undo F hC (by omega) hM n s
  by_cases h5 : k = 5
  · subst h5; exact step_none F hC (by omega) n s
  exact step_other F k n s h0 h1 h2 h3 h4 h5
end
end Go.Proofs.Ytgoedlbdnmhppaa
namespace Go.Proofs.Ytgoedlbdnmhppaa
open Go.RowKit
attribute [local go_sem ↓] Go.wp_at_zero Go.wp_at_succ
/-- The program's store and a reference's that tell the same. -/
structure Twin (B B' : Nat) (w : World) (sb rb : Nat) (C : List CV) (R : List (CV × Nat)) (M : List (Nat × Nat)) (p : PV) (Ps : List PV) (L : Bs) (As : List T) : Prop where
  sm : SM w B sb C R M
  rm : RM w B' rb p Ps
  pa : PA w p L As
  cl : CL w C L
  at_ : AT w (C.map CV.attr) As
theorem LS.twin {B : Nat} {w : World} {sb rb : Nat} {C : List CV} {R : List (CV × Nat)} {p : PV} {L : Bs} {As : List T} {Hs : List MK} (F : LS B w sb rb C R p L As Hs) : Twin B B w sb rb C R (Hs.map MK.m) p (Hs.map MK.q) L As := ⟨F.sm, F.rm, F.pa, F.cl, F.at_⟩
theorem Twin.below {B B' : Nat} {w w' : World} {sb rb : Nat} {C : List CV} {R : List (CV × Nat)} {M : List (Nat × Nat)} {p : PV} {Ps : List PV} {L : Bs} {As : List T} (h : Twin B B' w sb rb C R M p Ps L As) (hb : Below w.heap.size w w') : Twin B B' w' sb rb C R M p Ps L As :=
  ⟨h.sm.below hb, h.rm.below hb, h.pa.below hb, h.cl.below hb, h.at_.keep fun ht => ht.below hb⟩
theorem Twin.len {B B' : Nat} {w : World} {sb rb : Nat} {C : List CV} {R : List (CV × Nat)} {M : List (Nat × Nat)} {p : PV} {Ps : List PV} {L : Bs} {As : List T} (h : Twin B B' w sb rb C R M p Ps L As) : C.length = As.length ∧ p.n = C.length := by
  have h1 := h.at_.len
  have h2 := h.pa.n
  simp at h1
  exact ⟨h1, by omega⟩
theorem Twin.boxN {B B' : Nat} {w : World} {sb rb : Nat} {C : List CV} {R : List (CV × Nat)} {M : List (Nat × Nat)} {p : PV} {Ps : List PV} {L : Bs} {As : List T} (h : Twin B B' w sb rb C R M p Ps L As) : w.cell? ⟨rb, 0, none⟩ = some (.int .i64 (C.length : Int)) ∧ rb < w.heap.size := by
  obtain ⟨_, _, h0, _, _, _, _, hl, _, _⟩ := h.rm.box
  rw [h.len.2] at h0
  exact ⟨h0, hl⟩
section
variable {B B' : Nat} {w : World} {sb rb : Nat} {C : List CV} {R : List (CV × Nat)} {M : List (Nat × Nat)} {p : PV} {Ps : List PV} {L : Bs} {As : List T}
/-- The attribute of any number, at both: one term's two values. -/
def AttrPair (w : World) (sb rb : Nat) (n : Int) : Prop := ∃ (t : T) (k1 n1 : Int) (s1 : ByteArray) (A1 : Option Addr) (m1 d1 : Nat), t.aok ∧ TP w (fun _ => True) t (.agg #[.int .i64 k1, .int .i64 n1, .string s1, .slice A1 m1 d1]) ∧
  (∀ W, Below w.heap.size w W → Calls Try.prog 20 #[.pointer (some ⟨sb, 0, none⟩), .int .i64 n] W fun e w' => e = .returned (.agg #[.int .i64 k1, .int .i64 n1, .string s1, .slice A1 m1 d1]) ∧ Below W.heap.size W w') ∧
  (∀ W, Below w.heap.size w W → Calls Try.prog 37 #[.pointer (some ⟨rb, 0, none⟩), .int .i64 n] W fun e w' => AttrP t W e w')
theorem attr_pair (F : Twin B B' w sb rb C R M p Ps L As) (n : Int) : AttrPair w sb rb n := by
  have hlen := F.len
  by_cases ho : n < 0 ∨ (C.length : Int) ≤ n
  · refine ⟨noneT, 0, 0, ⟨#[]⟩, none, 0, 0, .inr rfl, TP.leaf0 _ _ _ _ _ _, fun W hW => sattr_out (F.below hW).sm ho, fun W hW => (rattr9_out (F.below hW).rm (by omega)).mono ?_⟩
    rintro e w' ⟨rfl, hb⟩
    exact ⟨⟨0, 0, ⟨#[]⟩, none, 0, 0, rfl, TP.leaf0 _ _ _ _ _ _⟩, hb⟩
  · obtain ⟨k, rfl⟩ : ∃ k : Nat, n = (k : Int) := ⟨n.toNat, by omega⟩
    obtain ⟨c, hc⟩ := at_of_lt (C := C) (n := k) (by omega)
    obtain ⟨a, ha⟩ : ∃ a, As[k]? = some a := ⟨_, List.getElem?_eq_getElem (by omega)⟩
    have h1 := F.at_.tp k c.attr a (by rw [List.getElem?_map, hc]; rfl) ha
    exact ⟨a, c.attr.k, c.attr.n, c.attr.s, c.attr.A, c.attr.m, c.attr.c, h1.2, h1.1, fun W hW => sattr_in (F.below hW).sm hc, fun W hW => rattr9_in (F.below hW).rm (F.below hW).pa ha⟩
end
end Go.Proofs.Ytgoedlbdnmhppaa
namespace Go.Proofs.Ytgoedlbdnmhppaa
open Go.RowKit
attribute [local go_sem ↓] Go.wp_at_zero Go.wp_at_succ
theorem tp_kind {w w' : World} {S S' : Nat → Prop} {t : T} {k n k' n' : Int} {s s' : ByteArray} {A A' : Option Addr} {m c m' c' : Nat} (h : TP w S t (.agg #[.int .i64 k, .int .i64 n, .string s, .slice A m c])) (h' : TP w' S' t (.agg #[.int .i64 k', .int .i64 n', .string s', .slice A' m' c'])) : k = k' ∧ ∀ (_ : t.aok), (k != 0) = true → t.ok := by
  cases t with
  | nil => exact absurd h (by simp [TP])
  | mk k0 n0 s0 m0 a0 =>
    obtain ⟨_, _, e, _⟩ := h
    obtain ⟨_, _, e', _⟩ := h'
    injection e with e
    injection e' with e'
    simp only [Array.mk.injEq, List.cons.injEq, and_true] at e e'
    obtain ⟨e, _⟩ := e
    obtain ⟨e', _⟩ := e'
    injection e with _ e
    injection e' with _ e'
    refine ⟨e.trans e'.symm, fun u hk => ?_⟩
    rcases u with u | u
    · exact u
    · unfold noneT at u
      injection u with u
      subst e; subst u
      simp at hk
section
variable {B B' : Nat} {w : World} {sb rb : Nat} {C : List CV} {R : List (CV × Nat)} {M : List (Nat × Nat)} {p : PV} {Ps : List PV} {L : Bs} {As : List T}
set_option maxRecDepth 100000 in
set_option maxHeartbeats 4000000 in
theorem alike_any (F : Twin B B' w sb rb C R M p Ps L As) :
    Calls Try.prog 25 #[.pointer (some ⟨sb, 0, none⟩), .pointer (some ⟨rb, 0, none⟩)] w fun e w' => e = .returned (.bool true) ∧ Below w.heap.size w w' := by
  have H := Lib.hid F
  obtain ⟨r0, r1⟩ := F.boxN
  have K0 := Lib.hid r0
  have KV := Lib.hid (fun (W : World) (hW : Below w.heap.size w W) => svars_any (F.below hW).sm)
  clear F
  go_enter Try.func25, Try.ntmps25
  go_wp2_with fail
  go_region_held3 (fun w' => w'.cell? ⟨rb, 0, none⟩ = some (.int .i64 (C.length : Int)))
    (exact K0.out)
    ((go_at_call 14; (with_reducible refine (KV.out _ (by (repeat (first | (with_reducible exact Below.refl _ _) | (with_reducible refine Below.drew ?_))))).mono ?_); rintro e we ⟨rfl, rfl⟩))
  have D0 := Lib.hid (show Below w.heap.size w w.drew from (Below.refl _ _).drew)
  go_wp2_with fail
  go_loopw [5] (fun iv wr => ∃ n : Int, iv = .int .i64 n ∧ -1 ≤ n ∧ n ≤ 12 ∧ Below w.heap.size w wr) (fun iv _ => (12 - intOf iv).toNat)
  case atStart => exact ⟨-1, rfl, by omega, by omega, D0.out⟩
  case round =>
    clear D0 r0 r1
    obtain ⟨n, rfl, hn0, hn1, hb⟩ := hrel
    have HB := Lib.hid hb
    clear hb
    by_cases hlt : n < 12
    · obtain ⟨t, k1, n1, s1, A1, m1, d1, hao, ht1, c1, c2⟩ := attr_pair (H.out.below HB.out) n
      have T1 := Lib.hid ht1
      have AO := Lib.hid hao
      have K2 := Lib.hid c2
      have K1 := Lib.hid (c1 _ (Below.refl _ _))
      have hwn : IntKind.i64.wrap (n + 1) = n + 1 := by rw [IntKind.wrap_i64]; omega
      clear ht1 hao c1 c2
      go_wp2_with fail
      refine K1.out.mono ?_
      rintro e w5 ⟨rfl, h5⟩
      have B5 := Lib.hid (belS h5 (Obj.cells #[.int .i64 k1, .int .i64 n1, .string s1, .slice A1 m1 d1] 40))
      have X5 := Lib.hid (heap_alloc_new w5 (Obj.cells #[.int .i64 k1, .int .i64 n1, .string s1, .slice A1 m1 d1] 40))
      have CK2 := Lib.hid (K2.out _ B5.out)
      clear h5 K1 K2
      go_wp2_with fail
      refine CK2.out.mono ?_
      rintro e w7 ⟨⟨k2, n2, s2, A2, m2, d2, rfl, ht2⟩, h7⟩
      obtain ⟨hkk, hok⟩ := tp_kind T1.out ht2
      subst hkk
      have B7 := Lib.hid (belS h7 (Obj.cells #[.int .i64 k1, .int .i64 n2, .string s2, .slice A2 m2 d2] 40))
      have X7 := Lib.hid ((B7.out.block _ (heap_lt X5.out)).trans X5.out)
      have Y7 := Lib.hid (heap_alloc_new w7 (Obj.cells #[.int .i64 k1, .int .i64 n2, .string s2, .slice A2 m2 d2] 40))
      have T2 := Lib.hid (ht2.below B7.out)
      have T3 := Lib.hid ((T1.out.below B5.out).below B7.out)
      have HOK := Lib.hid (hok AO.out)
      have E7 := Lib.hid ((HB.out.trans (B5.out.mono HB.out.size)).trans (B7.out.mono (HB.out.trans (B5.out.mono HB.out.size)).size))
      obtain ⟨x0, x1, x2, x3⟩ := box4 X7.out
      obtain ⟨y0, y1, y2, y3⟩ := box4 Y7.out
      have lx := heap_lt X7.out
      have ly := heap_lt Y7.out
      have hkk : (k1 != k1) = false := by simp
      clear ht2 hok h7 CK2
      by_cases hneg : n < 0
      · have hg : ¬ (n ≥ 0) := by omega
        cases hk : (k1 != 0)
        · have EE := E7
          obtain ⟨r0, r1⟩ := (H.out.below EE.out).boxN
          go_wp2_with fail
          go_roundw
          case rel => exact ⟨n + 1, by first | rfl | rw [hwn], by omega, by omega, by first | exact EE.out | exact EE.out.drew⟩
          case measure => simp only [intOf]; omega
        · obtain ⟨r0, r1⟩ := (H.out.below E7.out).boxN
          have CS1 := Lib.hid (same_any (HOK.out hk).thin (HOK.out hk).thin T3.out T2.out (b := true) ⟨fun _ => eqT_refl (HOK.out hk).thin, fun _ => rfl⟩)
          go_wp2_with fail
          refine CS1.out.mono ?_
          rintro e w9 ⟨rfl, h9⟩
          have EE := Lib.hid (E7.out.trans (h9.mono E7.out.size))
          clear h9 CS1 x0 x1 x2 x3 y0 y1 y2 y3 lx ly r0 r1
          obtain ⟨r0, r1⟩ := (H.out.below EE.out).boxN
          go_wp2_with fail
          go_roundw
          case rel => exact ⟨n + 1, by first | rfl | rw [hwn], by omega, by omega, by first | exact EE.out | exact EE.out.drew⟩
          case measure => simp only [intOf]; omega
      by_cases hin : n < (C.length : Int)
      · have hg : n ≥ 0 := by omega
        have hs : n < (C.length : Int) := by omega
        cases hk : (k1 != 0)
        · have EE := E7
          obtain ⟨r0, r1⟩ := (H.out.below EE.out).boxN
          go_wp2_with fail
          refine (lvar9_any n _).mono ?_
          rintro e wA ⟨rfl, hA⟩
          have EA := Lib.hid (EE.out.trans (hA.mono EE.out.size))
          clear hA
          obtain ⟨d, hd⟩ := H.out.cl.ok.deep (t := varT n) (varT_ok (by omega) (by omega))
          have HD := Lib.hid hd
          have VK := Lib.hid (varT_ok (n := n) (by omega) (by omega))
          have HTH := Lib.hid (H.out.cl.ok.resF_thin d _ VK.out hd)
          have CA := Lib.hid (sres_any H.out.cl.ok d _ VK.out hd wA wA B sb C R M _ (H.out.below EA.out).sm (H.out.below EA.out).cl (TP.leaf0 wA _ 1 n _ _ : TP wA (fun _ => True) (varT n) _) (Below.refl _ _))
          clear hd
          go_wp2_with fail
          refine CA.out.mono ?_
          rintro e wB ⟨⟨v1, rfl, hv1⟩, hB⟩
          have EB := Lib.hid (EA.out.trans (hB.mono EA.out.size))
          have V1 := Lib.hid hv1
          clear hB hv1 CA
          go_wp2_with fail
          refine (lvar9_any n _).mono ?_
          rintro e wC ⟨rfl, hC⟩
          have EC := Lib.hid (EB.out.trans (hC.mono EB.out.size))
          have VC := Lib.hid (V1.out.below hC)
          have CB := Lib.hid (rresolve9_any (H.out.below EC.out).rm (H.out.below EC.out).pa (TP.leaf0 wC _ 1 n _ _ : TP wC (fun _ => True) (varT n) _) VK.out HD.out)
          clear hC
          go_wp2_with fail
          refine CB.out.mono ?_
          rintro e wD ⟨⟨v2, rfl, hv2⟩, hD⟩
          have ED := Lib.hid (EC.out.trans (hD.mono EC.out.size))
          have CS := Lib.hid (same_any HTH.out HTH.out (VC.out.below hD) hv2 (b := true) ⟨fun _ => eqT_refl HTH.out, fun _ => rfl⟩)
          clear hD hv2 CB
          go_wp2_with fail
          refine CS.out.mono ?_
          rintro e wE ⟨rfl, hE⟩
          have EE := Lib.hid (ED.out.trans (hE.mono ED.out.size))
          clear hE CS
          go_wp2_with fail
          go_roundw
          case rel => exact ⟨n + 1, by first | rfl | rw [hwn], by omega, by omega, by first | exact EE.out | exact EE.out.drew⟩
          case measure => simp only [intOf]; omega
        · obtain ⟨r0, r1⟩ := (H.out.below E7.out).boxN
          have CS1 := Lib.hid (same_any (HOK.out hk).thin (HOK.out hk).thin T3.out T2.out (b := true) ⟨fun _ => eqT_refl (HOK.out hk).thin, fun _ => rfl⟩)
          go_wp2_with fail
          refine CS1.out.mono ?_
          rintro e w9 ⟨rfl, h9⟩
          have EE := Lib.hid (E7.out.trans (h9.mono E7.out.size))
          clear h9 CS1 x0 x1 x2 x3 y0 y1 y2 y3 lx ly r0 r1
          obtain ⟨r0, r1⟩ := (H.out.below EE.out).boxN
          go_wp2_with fail
          refine (lvar9_any n _).mono ?_
          rintro e wA ⟨rfl, hA⟩
          have EA := Lib.hid (EE.out.trans (hA.mono EE.out.size))
          clear hA
          obtain ⟨d, hd⟩ := H.out.cl.ok.deep (t := varT n) (varT_ok (by omega) (by omega))
          have HD := Lib.hid hd
          have VK := Lib.hid (varT_ok (n := n) (by omega) (by omega))
          have HTH := Lib.hid (H.out.cl.ok.resF_thin d _ VK.out hd)
          have CA := Lib.hid (sres_any H.out.cl.ok d _ VK.out hd wA wA B sb C R M _ (H.out.below EA.out).sm (H.out.below EA.out).cl (TP.leaf0 wA _ 1 n _ _ : TP wA (fun _ => True) (varT n) _) (Below.refl _ _))
          clear hd
          go_wp2_with fail
          refine CA.out.mono ?_
          rintro e wB ⟨⟨v1, rfl, hv1⟩, hB⟩
          have EB := Lib.hid (EA.out.trans (hB.mono EA.out.size))
          have V1 := Lib.hid hv1
          clear hB hv1 CA
          go_wp2_with fail
          refine (lvar9_any n _).mono ?_
          rintro e wC ⟨rfl, hC⟩
          have EC := Lib.hid (EB.out.trans (hC.mono EB.out.size))
          have VC := Lib.hid (V1.out.below hC)
          have CB := Lib.hid (rresolve9_any (H.out.below EC.out).rm (H.out.below EC.out).pa (TP.leaf0 wC _ 1 n _ _ : TP wC (fun _ => True) (varT n) _) VK.out HD.out)
          clear hC
          go_wp2_with fail
          refine CB.out.mono ?_
          rintro e wD ⟨⟨v2, rfl, hv2⟩, hD⟩
          have ED := Lib.hid (EC.out.trans (hD.mono EC.out.size))
          have CS := Lib.hid (same_any HTH.out HTH.out (VC.out.below hD) hv2 (b := true) ⟨fun _ => eqT_refl HTH.out, fun _ => rfl⟩)
          clear hD hv2 CB
          go_wp2_with fail
          refine CS.out.mono ?_
          rintro e wE ⟨rfl, hE⟩
          have EE := Lib.hid (ED.out.trans (hE.mono ED.out.size))
          clear hE CS
          go_wp2_with fail
          go_roundw
          case rel => exact ⟨n + 1, by first | rfl | rw [hwn], by omega, by omega, by first | exact EE.out | exact EE.out.drew⟩
          case measure => simp only [intOf]; omega
      · have hg : n ≥ 0 := by omega
        have hs : ¬ (n < (C.length : Int)) := by omega
        cases hk : (k1 != 0)
        · have EE := E7
          obtain ⟨r0, r1⟩ := (H.out.below EE.out).boxN
          go_wp2_with fail
          go_roundw
          case rel => exact ⟨n + 1, by first | rfl | rw [hwn], by omega, by omega, by first | exact EE.out | exact EE.out.drew⟩
          case measure => simp only [intOf]; omega
        · obtain ⟨r0, r1⟩ := (H.out.below E7.out).boxN
          have CS1 := Lib.hid (same_any (HOK.out hk).thin (HOK.out hk).thin T3.out T2.out (b := true) ⟨fun _ => eqT_refl (HOK.out hk).thin, fun _ => rfl⟩)
          go_wp2_with fail
          refine CS1.out.mono ?_
          rintro e w9 ⟨rfl, h9⟩
          have EE := Lib.hid (E7.out.trans (h9.mono E7.out.size))
          clear h9 CS1 x0 x1 x2 x3 y0 y1 y2 y3 lx ly r0 r1
          obtain ⟨r0, r1⟩ := (H.out.below EE.out).boxN
          go_wp2_with fail
          go_roundw
          case rel => exact ⟨n + 1, by first | rfl | rw [hwn], by omega, by omega, by first | exact EE.out | exact EE.out.drew⟩
          case measure => simp only [intOf]; omega
    · go_wp2_with fail
      go_ret
      exact ⟨rfl, HB.out⟩
end
end Go.Proofs.Ytgoedlbdnmhppaa
namespace Go.Proofs.Ytgoedlbdnmhppaa
open Go.RowKit
attribute [local go_sem ↓] Go.wp_at_zero Go.wp_at_succ
/-- A row of steps that a law is given. -/
structure Steps (w : World) (A : Option Addr) (m c : Nat) (z : Nat → Int × Int × ByteArray) : Prop where
  cap : m ≤ c
  rng : ∀ i, i < m → I64 (z i).1 ∧ I64 (z i).2.1
  few : (m : Int) ≤ 9223372036854775807
  at_ : 0 < m → ∃ b off, A = some ⟨b, off, none⟩ ∧ b < w.heap.size ∧ ∀ i, i < m → w.cell? ⟨b, off + i * 3, none⟩ = some (.int .i64 (z i).1) ∧ w.cell? ⟨b, off + i * 3 + 1, none⟩ = some (.int .i64 (z i).2.1) ∧ w.cell? ⟨b, off + i * 3 + 2, none⟩ = some (.string (z i).2.2)
def HeavyP (m : Nat) (w : World) (e : Ending) (w' : World) : Prop := (∃ b : Bool, e = .returned (.bool b) ∧ (b = false → m ≤ 60)) ∧ Below w.heap.size w w'
theorem heavy_t (m : Nat) (w : World) : HeavyP m w (.returned (.bool true)) w := ⟨⟨true, rfl, fun h => by cases h⟩, Below.refl _ _⟩
theorem heavy_d (m : Nat) (n : Int) (w : World) : HeavyP m w (.returned (.bool (decide (2048 < n) || decide (60 < (m : Int))))) w := ⟨⟨_, rfl, fun h => by simp at h; omega⟩, Below.refl _ _⟩
set_option maxRecDepth 100000 in
set_option maxHeartbeats 4000000 in
theorem heavy_any {w : World} {A : Option Addr} {m c : Nat} {z : Nat → Int × Int × ByteArray} (h : Steps w A m c z) :
    Calls Try.prog 22 #[.slice A m c] w fun e w' => HeavyP m w e w' := by
  have H := Lib.hid h
  have hmc := h.cap
  have hfew := h.few
  clear h
  go_enter Try.func22, Try.ntmps22
  go_wp2_with fail
  go_loopw [3, 4] (fun nv iv wr => ∃ (n : Int) (i : Nat), nv = .int .i64 n ∧ iv = .int .i64 (i : Int) ∧ i ≤ m ∧ 0 ≤ n ∧ (n ≤ 1050624 ∨ n ≤ m) ∧ wr = w) (fun _ iv _ => m - (intOf iv).toNat)
  case atStart => exact ⟨m, 0, rfl, rfl, Nat.zero_le _, by omega, .inr (Int.le_refl _), rfl⟩
  case round =>
    obtain ⟨n, i, rfl, rfl, hi, hn0, hn1, rfl⟩ := hrel
    have HN := Lib.hid hn1
    clear hn1
    by_cases him : (i : Int) < (m : Int)
    · by_cases hle : n ≤ 2048
      · obtain ⟨b, off, rfl, hbl, hcz⟩ := H.out.at_ (by omega)
        obtain ⟨_, _, z2⟩ := hcz i (by omega)
        obtain ⟨s, hs⟩ : ∃ s, s = (z i).2.2 := ⟨_, rfl⟩
        rw [← hs] at z2
        clear hcz hs
        go_wp2_with fail
        obtain ⟨v, hv, hv0, hv1⟩ : ∃ v : Int, v = (if 1048576 < (s.size : Int) then 1048576 else (s.size : Int)) ∧ 0 ≤ v ∧ v ≤ 1048576 := ⟨_, rfl, by split <;> omega, by split <;> omega⟩
        rw [← hv]
        exact ⟨⟨n + v, i + 1, rfl, by go_num, by omega, by omega, .inl (by omega), trivial⟩, by simp only [intOf]; omega⟩
      · go_wp2_with fail
        all_goals (go_ret; first | exact heavy_t m wr | exact heavy_d m n wr)
    · go_wp2_with fail
      all_goals (go_ret; first | exact heavy_t m wr | exact heavy_d m n wr)
end Go.Proofs.Ytgoedlbdnmhppaa
namespace Go.Proofs.Ytgoedlbdnmhppaa
open Go.RowKit
attribute [local go_sem ↓] Go.wp_at_zero Go.wp_at_succ
set_option maxRecDepth 100000 in
set_option maxHeartbeats 8000000 in
theorem stscript_any {w : World} {A : Option Addr} {m c : Nat} {z : Nat → Int × Int × ByteArray} (h : Steps w A m c z) :
    Calls Try.prog 5 #[.slice A m c] w fun e w' => e = .returned (.bool true) ∧ Below w.heap.size w w' := by
  have HZ := Lib.hid h
  have hmc := h.cap
  have CHV := Lib.hid (heavy_any h)
  clear h
  go_enter Try.func5, Try.ntmps5
  go_wp2_with fail
  refine CHV.out.mono ?_
  rintro e w0 ⟨⟨b, rfl, hb60⟩, h0⟩
  have B0 := Lib.hid h0
  have HM := Lib.hid hb60
  clear h0 hb60 CHV
  cases b
  · have hm60 : m ≤ 60 := HM.out rfl
    go_wp2_with fail
    refine (snew_any w0).mono ?_
    rintro e w1 ⟨rfl, hs1, h1⟩
    have S1 := Lib.hid hs1
    have H1 := Lib.hid h1
    clear hs1 h1
    go_wp2_with fail
    refine (rnew9_any w1).mono ?_
    rintro e w2 ⟨rfl, hr2, h2⟩
    obtain ⟨rb, hrb⟩ : ∃ rb, rb = w1.heap.size := ⟨_, rfl⟩
    have F2 := Lib.hid (show LS w0.heap.size w2 w0.heap.size rb [] [] PV.zero [] [] [] from LS.start (w1 := w1) S1.out (by rw [hrb]; exact ⟨⟨hr2.ex.choose, hr2.ex.choose_spec.choose, hr2.ex.choose_spec.choose_spec.1, ownsRow_more hr2.ex.choose_spec.choose_spec.2 H1.out.size⟩, Nat.le_trans H1.out.size hr2.ge⟩) (RF.below H1.out.size h2))
    have B2 := Lib.hid (B0.out.trans ((H1.out.trans (h2.mono H1.out.size)).mono B0.out.size))
    rw [← hrb]
    clear hr2 h2 S1 H1 hrb
    go_wp2_with fail
    refine (pfresh1 F2.out (by simp) 3 _ (Below.refl _ _)).mono ?_
    rintro e w3 ⟨rfl, hs3, hf3⟩
    have S3 := Lib.hid hs3
    have E3 := Lib.hid hf3
    clear hs3 hf3
    go_wp2_with fail
    refine (pfresh2 F2.out (by simp) 3 S3.out E3.out _ (Below.refl _ _)).mono ?_
    rintro e w4 ⟨rfl, p4, hF4, hb4⟩
    obtain ⟨C0, hC0⟩ : ∃ C0, C0 = ([] ++ List.replicate (fresh 3) CV.zero : List CV) := ⟨_, rfl⟩
    obtain ⟨As0, hAs0⟩ : ∃ As0, As0 = ([] ++ List.replicate (fresh 3) noneT : List T) := ⟨_, rfl⟩
    have hl3 : (C0.length : Int) = 3 := by rw [hC0, show fresh 3 = 3 by decide]; rfl
    have hl3' : C0.length ≤ 3 := by omega
    rw [← hC0, ← hAs0] at hF4
    have F4 := Lib.hid hF4
    have B4 := Lib.hid (B2.out.trans (hb4.mono B0.out.size))
    clear hF4 hb4 F2 B2 S3 E3 hC0 hAs0
    have CV4 := Lib.hid (pvars F4.out _ (Below.refl _ _))
    rw [hl3] at CV4
    clear hl3
    go_wp2_with fail
    refine CV4.out.mono ?_
    rintro e w5 ⟨rfl, rfl⟩
    clear CV4
    go_wp2_with fail
    go_loopw [5] (fun iv wr => ∃ (i : Nat) (C : List CV) (R : List (CV × Nat)) (p : PV) (L : Bs) (As : List T) (Hs : List MK), iv = .int .i64 (i : Int) ∧ i ≤ m ∧ C.length ≤ 5100 ∧ R.length ≤ 2000 * i ∧ Hs.length ≤ i ∧ LS w0.heap.size wr w0.heap.size rb C R p L As Hs ∧ Below w.heap.size w wr) (fun iv _ => m - (intOf iv).toNat)
    case atStart => exact ⟨0, C0, [], p4, [], As0, [], rfl, Nat.zero_le _, by omega, by simp, by simp, F4.out, B4.out⟩
    case round =>
      clear F4 B4 hl3'
      obtain ⟨i, C, R, p, L, As, Hs, rfl, hi, hC, hR, hH, hf, hb⟩ := hrel
      have F := Lib.hid hf
      have HB := Lib.hid hb
      clear hf hb
      by_cases him : (i : Int) < (m : Int)
      · obtain ⟨b, off, rfl, hbl, hcz⟩ := HZ.out.at_ (by omega)
        obtain ⟨z0, z1, z2⟩ := hcz i (by omega)
        obtain ⟨k, hk⟩ : ∃ k, k = (z i).1 := ⟨_, rfl⟩
        obtain ⟨n, hn⟩ : ∃ n, n = (z i).2.1 := ⟨_, rfl⟩
        obtain ⟨s, hs⟩ : ∃ s, s = (z i).2.2 := ⟨_, rfl⟩
        rw [← hk] at z0
        rw [← hn] at z1
        rw [← hs] at z2
        have y0 := (HB.out.cell (p := ⟨b, off + i * 3, none⟩) hbl).trans z0
        have y1 := (HB.out.cell (p := ⟨b, off + i * 3 + 1, none⟩) hbl).trans z1
        have y2 := (HB.out.cell (p := ⟨b, off + i * 3 + 2, none⟩) hbl).trans z2
        have hbl' := Nat.lt_of_lt_of_le hbl HB.out.size
        obtain ⟨r0, r1⟩ := F.out.boxN
        have CST := Lib.hid (step_any F.out (by omega) (by omega) (by omega) k n s)
        clear hcz z0 z1 z2 hk hn hs hbl
        cases hk0 : (k == 0)
        · have hkn : k ≠ 0 := fun e => by subst e; simp at hk0
          have HKN := Lib.hid hkn
          clear hkn
          go_wp2_with fail
          refine CST.out.mono ?_
          rintro e w6 ⟨rfl, C', R', p', L', As', Hs', q1, q2, q3, q4, _, hF6, hb6, _, _⟩
          have F6 := Lib.hid hF6
          have B6 := Lib.hid (HB.out.trans (hb6.mono B0.out.size))
          have hC' : C'.length ≤ 5100 := by have := q2 HKN.out; omega
          have hR' : R'.length ≤ 2000 * (i + 1) := by omega
          have hH' : Hs'.length ≤ i + 1 := by omega
          clear hF6 hb6 q1 q2 q3 q4 CST y0 y1 y2 r0 r1
          go_wp2_with fail
          refine (lgreat_any F6.out.rm F6.out.pa).mono ?_
          rintro e w7 ⟨⟨b7, rfl⟩, h7⟩
          have F7 := Lib.hid (F6.out.below h7)
          have B7 := Lib.hid (B6.out.trans (h7.mono B6.out.size))
          clear h7
          cases b7
          · go_wp2_with fail
            refine (alike_any F7.out.twin).mono ?_
            rintro e w8 ⟨rfl, h8⟩
            have F8 := Lib.hid (F7.out.below h8)
            have B8 := Lib.hid (B7.out.trans (h8.mono B7.out.size))
            clear h8
            go_wp2_with fail
            go_roundw
            case rel => exact ⟨i + 1, C', R', p', L', As', Hs', by go_num, by omega, hC', hR', hH', F8.out, B8.out⟩
            case measure => simp only [intOf]; omega
          · go_wp2_with fail
            go_ret
            exact ⟨rfl, B7.out⟩
        · by_cases hbig : (C.length : Int) > 4096
          · go_wp2_with fail
            go_ret
            exact ⟨rfl, HB.out⟩
          · have HKN := Lib.hid hbig
            go_wp2_with fail
            refine CST.out.mono ?_
            rintro e w6 ⟨rfl, C', R', p', L', As', Hs', q1, q2, q3, q4, _, hF6, hb6, _, _⟩
            have F6 := Lib.hid hF6
            have B6 := Lib.hid (HB.out.trans (hb6.mono B0.out.size))
            have hC' : C'.length ≤ 5100 := by have := HKN.out; omega
            have hR' : R'.length ≤ 2000 * (i + 1) := by omega
            have hH' : Hs'.length ≤ i + 1 := by omega
            clear hF6 hb6 q1 q2 q3 q4 CST y0 y1 y2 r0 r1
            go_wp2_with fail
            refine (lgreat_any F6.out.rm F6.out.pa).mono ?_
            rintro e w7 ⟨⟨b7, rfl⟩, h7⟩
            have F7 := Lib.hid (F6.out.below h7)
            have B7 := Lib.hid (B6.out.trans (h7.mono B6.out.size))
            clear h7
            cases b7
            · go_wp2_with fail
              refine (alike_any F7.out.twin).mono ?_
              rintro e w8 ⟨rfl, h8⟩
              have F8 := Lib.hid (F7.out.below h8)
              have B8 := Lib.hid (B7.out.trans (h8.mono B7.out.size))
              clear h8
              go_wp2_with fail
              go_roundw
              case rel => exact ⟨i + 1, C', R', p', L', As', Hs', by go_num, by omega, hC', hR', hH', F8.out, B8.out⟩
              case measure => simp only [intOf]; omega
            · go_wp2_with fail
              go_ret
              exact ⟨rfl, B7.out⟩
      · go_wp2_with fail
        go_ret
        exact ⟨rfl, HB.out⟩
  · go_wp2_with fail
    go_ret
    exact ⟨rfl, B0.out⟩
end Go.Proofs.Ytgoedlbdnmhppaa
namespace Go.Proofs.Ytgoedlbdnmhppaa
open Go.RowKit
set_option maxRecDepth 100000 in
theorem open_steps {H : Type} {enc : TypeId × Value → H} {w : World} {base : Nat} {spare : Nat → Bool} {held : Bool} {fuel : Nat} {A : Option Addr} {len cap : Nat} {x : DataW H × List MemPlace}
    (h : DataW.trod enc Try.prog w base spare held fuel 47 [.slice A len cap] = some x) : ∃ z, Steps w A len cap z := by
  have ce : Try.prog.cellsOf 50 = 3 := by kernel_rfl
  have ci : Try.prog.cellsOf 3 = 1 := by kernel_rfl
  have cs1 : Try.prog.cellsOf 9 = 1 := by kernel_rfl
  rcases Go.Deep.open_slice Try.underlying47 h with ⟨h0, _⟩ | ⟨a, l, c, m, n, D, Pl, h0, hb, hl, hm, hmm, _, hx⟩
  · simp at h0
    obtain ⟨rfl, rfl, rfl⟩ := h0
    exact ⟨fun _ => (0, 0, ⟨#[]⟩), Nat.le_refl _, fun i hi => absurd hi (by omega), by omega, fun hi => absurd hi (by omega)⟩
  · simp at h0
    obtain ⟨rfl, rfl, rfl⟩ := h0
    have hlm : len ≤ m := by rw [hmm]; split <;> omega
    have each : ∀ i, i < m → ∃ q : Int × Int × ByteArray, w.cell? (a.add (i * 3)) = some (.int .i64 q.1) ∧ w.cell? (a.add (i * 3 + 1)) = some (.int .i64 q.2.1) ∧ w.cell? (a.add (i * 3 + 2)) = some (.string q.2.2) ∧ I64 q.1 ∧ I64 q.2.1 := by
      intro i hi
      obtain ⟨cs', h1, h2⟩ := hx i hi
      rw [ce] at h1
      obtain ⟨_, hlen, hcell⟩ := World.cells?_some h1
      obtain ⟨xs, k, hk, hxy, _, hxl, hf⟩ := DataW.trod_struct Try.underlying50 h2
      match cs', hlen with
      | [v0, v1, v2], _ =>
        have g0 := hf 0 _ rfl
        have g1 := hf 1 _ rfl
        have g2 := hf 2 _ rfl
        simp [ci, cs1] at g0 g1 g2
        have hx3 : xs.length = 3 := hxl
        rw [List.getElem?_eq_getElem (by omega)] at g0 g1 g2
        obtain ⟨n0, e0, _, w0⟩ := DataW.trod_int Try.underlying3 g0
        obtain ⟨n1, e1, _, w1⟩ := DataW.trod_int Try.underlying3 g1
        obtain ⟨s2, e2, _, _⟩ := DataW.trod_string Try.underlying9 g2
        simp at e0 e1 e2
        subst e0; subst e1; subst e2
        have f0 := hcell 0 (by omega)
        have f1 := hcell 1 (by omega)
        have f2 := hcell 2 (by omega)
        rw [Go.Deep.add_add] at f0 f1 f2
        have b0 := bounds_i64 w0
        have b1 := bounds_i64 w1
        have i0 : I64 n0 := ⟨by omega, by omega⟩
        have i1 : I64 n1 := ⟨by omega, by omega⟩
        exact ⟨(n0, n1, s2), by simpa using f0, by simpa using f1, by simpa using f2, i0, i1⟩
    obtain ⟨q, hq⟩ := Go.Deep.choose_lt each
    refine ⟨q, hl, fun i hi => ⟨(hq i (by omega)).2.2.2.1, (hq i (by omega)).2.2.2.2⟩, ?_, fun h0 => ?_⟩
    · have : maxLen ≤ 9223372036854775807 := by decide
      omega
    · obtain ⟨b, off, spot⟩ := a
      have hspot : spot = none := by simpa [Addr.add] using World.cell?_spot (hq 0 (by omega)).1
      subst hspot
      refine ⟨b, off, rfl, ?_, fun i hi => ?_⟩
      · have h1 := (hq 0 (by omega)).1
        rw [Go.WideShapes.add_plain] at h1
        rcases Nat.lt_or_ge b w.heap.size with hlt | hge
        · exact hlt
        · simp [World.cell?, Array.getElem?_eq_none hge] at h1
      · obtain ⟨h1, h2, h3, _⟩ := hq i (by omega)
        rw [Go.WideShapes.add_plain] at h1 h2 h3
        exact ⟨h1, by rw [Nat.add_assoc]; exact h2, by rw [Nat.add_assoc]; exact h3⟩
end Go.Proofs.Ytgoedlbdnmhppaa
