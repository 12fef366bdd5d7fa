/- coneylaw18's one, sides: the terms that they hand back. -/
import Derived.Test.YtjjkigphfijnbaaRd14
import Derived.Test.YtjjkigphfijnbaaUni6
import Derived.Test.YtjjkigphfijnbaaStep
import Derived.Test.YtjjkigphfijnbaaRu4
import Derived.Deep.RegionHeld3
import Derived.Deep.DrawnRows
namespace Go.Proofs.Ytjjkigphfijnbaa
open Go.RowKit
attribute [local go_sem ↓] Go.wp_at_zero Go.wp_at_succ

def LTP (w : World) (e : Ending) (w' : World) : Prop :=
  (∃ (k n : Int) (s : ByteArray) (A : Option Addr) (m c : Nat) (t : T), e = .returned (.agg #[.int .i64 k, .int .i64 n, .string s, .slice A m c]) ∧ TP w' (fun b => w.heap.size ≤ b) t (.agg #[.int .i64 k, .int .i64 n, .string s, .slice A m c]) ∧ t.good ∧ t.nodes ≤ 1000) ∧ Below w.heap.size w w'
theorem ltp_leaf {w W : World} (hW : Below w.heap.size w W) : LTP w (.returned (.agg #[.int .i64 3, .int .i64 0, .string ⟨#[110, 111, 110, 101]⟩, .slice none 0 0])) W :=
  ⟨⟨3, 0, ⟨#[110, 111, 110, 101]⟩, none, 0, 0, .mk 3 0 ⟨#[110, 111, 110, 101]⟩ 0 fun _ => .nil, rfl, TP.leaf W _ 3 0 ⟨#[110, 111, 110, 101]⟩, ⟨.inr (.inr (.inl ⟨rfl, rfl, by decide, rfl⟩)), fun i h => absurd h (by omega)⟩, by rw [leaf_nodes]; decide⟩, hW⟩
set_option maxRecDepth 100000 in
set_option maxHeartbeats 4000000 in
theorem wone_tp (s : ByteArray) (w : World) : Calls Try.prog 30 #[.string s] w fun e w' => LTP w e w' := by
  by_cases hs : (s.size : Int) ≤ 1024
  · go_enter Try.func30, Try.ntmps30
    go_wp2_with fail
    refine (one_any s _).mono ?_
    rintro e w1 ⟨⟨k, n, tx, A, m, c, NA, nn, nc, p, er, rfl, hok⟩, h1⟩
    have hE1 := Lib.hid ((h1.block w.heap.size (by simp)).trans (heap_alloc_new w (Obj.cells #[.int .i64 0, .int .i64 0, .string ⟨#[]⟩, .slice none 0 0] 34)))
    have B1 := Lib.hid (((Below.refl w.heap.size w).alloc (Nat.le_refl _) (Obj.cells #[.int .i64 0, .int .i64 0, .string ⟨#[]⟩, .slice none 0 0] 34)).trans (h1.mono (by simp)))
    have hlt : w.heap.size < w1.heap.size := heap_lt hE1.out
    have xf : ∀ j, w1.frozen? ⟨w.heap.size, j, none⟩ = false := fun j => by simp [World.frozen?, hE1.out]
    obtain ⟨x0, x1, x2, x3⟩ := box4t hE1.out
    clear h1
    by_cases he : er = 0
    · subst he
      obtain ⟨t, ht, hgd, hnd⟩ := hok rfl
      have HT := Lib.hid ht
      clear ht hok
      go_wp2_with fail
      have P := box_put4 hE1.out (.int .i64 k) (.int .i64 n) (.string tx) (.slice A m c) rfl
      obtain ⟨p0, p1, p2, p3⟩ := box4t P.1
      refine bodyPost_ret (v := .agg #[.int .i64 k, .int .i64 n, .string tx, .slice A m c]) (by simp [results, go_sem, p0, p1, p2, p3, hlt]) rfl ?_
      have B2 := P.2.2.2 _ _ (Nat.le_refl _) B1.out
      refine ⟨⟨_, _, _, _, _, _, t, rfl, ((tp_put hE1.out _ _ _ _ HT.out fun b hb => ?_).below ((Below.refl _ _).alloc (Nat.le_refl _) _)).more fun b hb => ?_, hgd, hnd⟩, B2.alloc B2.size _⟩
      rotate_left
      · exact Nat.le_trans (by simp) (show (w.alloc (Obj.cells #[.int .i64 0, .int .i64 0, .string ⟨#[]⟩, .slice none 0 0] 34)).heap.size ≤ b from hb)
      have hb2 : (w.alloc (Obj.cells #[.int .i64 0, .int .i64 0, .string ⟨#[]⟩, .slice none 0 0] 34)).heap.size ≤ b := hb
      simp at hb2
      omega
    · have hne : (er == 0) = false := by simpa using he
      clear hok
      go_wp2_with fail
      have P := box_put4 hE1.out (.int .i64 3) (.int .i64 0) (.string ⟨#[110, 111, 110, 101]⟩) (.slice none 0 0) rfl
      obtain ⟨p0, p1, p2, p3⟩ := box4t P.1
      refine bodyPost_ret (v := .agg #[.int .i64 3, .int .i64 0, .string ⟨#[110, 111, 110, 101]⟩, .slice none 0 0]) (by simp [results, go_sem, p0, p1, p2, p3, hlt]) rfl ?_
      have B2 := P.2.2.2 _ _ (Nat.le_refl _) B1.out
      exact ltp_leaf (B2.alloc B2.size _)
  · have hs' : ¬ (s.size : Int) ≤ 1024 := hs
    go_enter Try.func30, Try.ntmps30
    go_wp2_with fail
    refine bodyPost_ret (v := .agg #[.int .i64 3, .int .i64 0, .string ⟨#[110, 111, 110, 101]⟩, .slice none 0 0]) (by simp [results, go_sem]) rfl ?_
    exact ltp_leaf ((Below.refl _ _).alloc (Nat.le_refl _) _)
/-- Both sides, two terms. -/
def SidesP (w : World) (e : Ending) (w' : World) : Prop :=
  (∃ (k n : Int) (s : ByteArray) (A : Option Addr) (m c : Nat) (j l : Int) (u : ByteArray) (B : Option Addr) (p d : Nat) (a b : T), e = .returned (.tuple #[.agg #[.int .i64 k, .int .i64 n, .string s, .slice A m c], .agg #[.int .i64 j, .int .i64 l, .string u, .slice B p d]]) ∧
    TP w' (fun _ => True) a (.agg #[.int .i64 k, .int .i64 n, .string s, .slice A m c]) ∧ TP w' (fun _ => True) b (.agg #[.int .i64 j, .int .i64 l, .string u, .slice B p d]) ∧ a.ok ∧ b.ok) ∧ Below w.heap.size w w'
/-- All blocks from one on are as they were. -/
def Past (B : Nat) (w w' : World) : Prop := ∀ b, B ≤ b → w'.heap[b]? = w.heap[b]?
theorem Past.refl (B : Nat) (w : World) : Past B w w := fun _ _ => rfl
theorem Past.drew {B : Nat} {w w' : World} (h : Past B w w') : Past B w w'.drew := h
theorem Past.set {B : Nat} {w w' : World} (h : Past B w w') {p : Addr} (hp : p.block < B) (u : Value) : Past B w (w'.setCell p u) := fun b hb => (Below.heap_setCell _ _ _ _ (by omega)).trans (h b hb)
theorem Past.set0 {n : Nat} {w w' : World} (h : Past (n + 2) w w') (i : Nat) (u : Value) : Past (n + 2) w (w'.setCell ⟨n, i, none⟩ u) := h.set (by show n < n + 2; omega) u
theorem Past.set1 {n : Nat} {w w' : World} (h : Past (n + 2) w w') (i : Nat) (u : Value) : Past (n + 2) w (w'.setCell ⟨n + 1, i, none⟩ u) := h.set (by show n + 1 < n + 2; omega) u
theorem put_two {w wr : World} {g h : Nat} {u0 u1 u2 u3 v0 v1 v2 v3 : Value} {ty : TypeId} {m : Nat × Nat} (hg : wr.heap[g]? = some (.cells #[u0, u1, u2, u3] ty m)) (hh : wr.heap[h]? = some (.cells #[v0, v1, v2, v3] ty m)) (hne : g ≠ h) (hlg : w.heap.size ≤ g) (hlh : w.heap.size ≤ h) (hb : Below w.heap.size w wr) (a0 a1 a2 a3 b0 b1 b2 b3 : Value) {W : World}
    (hW : W = ((((((((wr.setCell ⟨g, 0, none⟩ a0).setCell ⟨g, 1, none⟩ a1).setCell ⟨g, 2, none⟩ a2).setCell ⟨g, 3, none⟩ a3).setCell ⟨h, 0, none⟩ b0).setCell ⟨h, 1, none⟩ b1).setCell ⟨h, 2, none⟩ b2).setCell ⟨h, 3, none⟩ b3)) :
    W.heap[g]? = some (.cells #[a0, a1, a2, a3] ty m) ∧ W.heap[h]? = some (.cells #[b0, b1, b2, b3] ty m) ∧ (∀ k, k ≠ g → k ≠ h → W.heap[k]? = wr.heap[k]?) ∧ Below w.heap.size w W := by
  have P := box_put4 hg a0 a1 a2 a3 rfl
  have Q := box_put4 ((P.2.2.1 h (Ne.symm hne)).trans hh) b0 b1 b2 b3 hW.symm
  exact ⟨(Q.2.2.1 g hne).trans P.1, Q.1, fun k h1 h2 => (Q.2.2.1 k h2).trans (P.2.2.1 k h1), Q.2.2.2 _ _ hlh (P.2.2.2 _ _ hlg hb)⟩
set_option maxRecDepth 100000 in
set_option maxHeartbeats 4000000 in
theorem sides_any (s : ByteArray) (w : World) : Calls Try.prog 24 #[.string s] w fun e w' => SidesP w e w' := by
  go_enter Try.func24, Try.ntmps24
  go_wp2_with fail
  refine (wone_tp s _).mono ?_
  rintro e w1 ⟨⟨k, n, tx, A, m, c, t, rfl, ht, hgd, hnd⟩, h1⟩
  have B0 := Lib.hid ((((Below.refl w.heap.size w).alloc (Nat.le_refl _) (Obj.cells #[.int .i64 0, .int .i64 0, .string ⟨#[]⟩, .slice none 0 0] 34)).alloc (by simp) (Obj.cells #[.int .i64 0, .int .i64 0, .string ⟨#[]⟩, .slice none 0 0] 34)).trans (h1.mono (by simp; omega)))
  have X1 := Lib.hid ((h1.block w.heap.size (by simp; omega)).trans ((Below.heap_alloc (w.alloc (Obj.cells #[.int .i64 0, .int .i64 0, .string ⟨#[]⟩, .slice none 0 0] 34)) (Obj.cells #[.int .i64 0, .int .i64 0, .string ⟨#[]⟩, .slice none 0 0] 34) w.heap.size (by simp)).trans (heap_alloc_new w _)))
  have Y1 := Lib.hid ((h1.block (w.heap.size + 1) (by simp)).trans ((congrArg _ (by simp)).trans (heap_alloc_new (w.alloc (Obj.cells #[.int .i64 0, .int .i64 0, .string ⟨#[]⟩, .slice none 0 0] 34)) (Obj.cells #[.int .i64 0, .int .i64 0, .string ⟨#[]⟩, .slice none 0 0] 34))))
  obtain ⟨W1, hW1⟩ : ∃ W1, W1 = w1.alloc (Obj.cells #[.int .i64 k, .int .i64 n, .string tx, .slice A m c] 34) := ⟨_, rfl⟩
  have BA := (Below.refl w1.heap.size w1).alloc (Nat.le_refl _) (Obj.cells #[.int .i64 k, .int .i64 n, .string tx, .slice A m c] 34)
  rw [← hW1] at BA
  have XW := Lib.hid ((BA.block _ (heap_lt X1.out)).trans X1.out)
  have YW := Lib.hid ((BA.block _ (heap_lt Y1.out)).trans Y1.out)
  have BW := Lib.hid (B0.out.trans (BA.mono B0.out.size))
  have TW := Lib.hid ((ht.below BA).more (S' := fun b => w.heap.size + 1 < b) fun b hb => by
    have h9 : ((w.alloc (Obj.cells #[.int .i64 0, .int .i64 0, .string ⟨#[]⟩, .slice none 0 0] 34)).alloc (Obj.cells #[.int .i64 0, .int .i64 0, .string ⟨#[]⟩, .slice none 0 0] 34)).heap.size ≤ b := hb
    simp at h9
    omega)
  have OK := Lib.hid (show t.ok from ⟨hgd, hnd⟩)
  have hlw1 : w.heap.size + 2 ≤ w1.heap.size := heap_lt Y1.out
  have hbox : W1.heap[w1.heap.size]? = some (.cells #[.int .i64 k, .int .i64 n, .string tx, .slice A m c] 34 (0, 0)) := by rw [hW1]; exact heap_alloc_new _ _
  have hgl := heap_lt hbox
  have l0 := heap_lt XW.out
  have l1 := heap_lt YW.out
  obtain ⟨b0, b1, b2, b3⟩ := box4 hbox
  obtain ⟨x0, x1, x2, x3⟩ := box4 XW.out
  obtain ⟨y0, y1, y2, y3⟩ := box4 YW.out
  have xf : ∀ j, W1.frozen? ⟨w.heap.size, j, none⟩ = false := fun j => by simp [World.frozen?, XW.out]
  have yf : ∀ j, W1.frozen? ⟨w.heap.size + 1, j, none⟩ = false := fun j => by simp [World.frozen?, YW.out]
  clear h1 ht hgd hnd BA X1 Y1 hbox B0
  by_cases hall : k = 4 ∧ tx.toList = [61] ∧ m = 2
  · obtain ⟨rfl, hk2, rfl⟩ := hall
    have ht := TW.out
    obtain ⟨fa, hfa⟩ := ht.shape
    have hok := OK.out
    rw [hfa] at ht hok
    obtain ⟨_, _, e9, _, _, hx⟩ := ht
    injection e9 with e9
    simp only [Array.mk.injEq, List.cons.injEq, and_true] at e9
    obtain ⟨_, _, _, e9⟩ := e9
    injection e9 with e91 _ e92
    subst e91; subst e92
    obtain ⟨ga, cs, f, rfl, hga, hgb, hc⟩ := hx (by omega)
    obtain ⟨t0, t1, t2, t3, c0, c1, c2, c3, ta⟩ := hc 0 (by omega)
    obtain ⟨u0, u1, u2, U0, um, uc, he⟩ := ta.agg
    injection he with he
    simp only [Array.mk.injEq, List.cons.injEq, and_true] at he
    obtain ⟨rfl, rfl, rfl, rfl⟩ := he
    obtain ⟨t0, t1, t2, t3, d0, d1, d2, d3, tb⟩ := hc 1 (by omega)
    obtain ⟨v0, v1, v2, V0, vm, vc, he⟩ := tb.agg
    injection he with he
    simp only [Array.mk.injEq, List.cons.injEq, and_true] at he
    obtain ⟨rfl, rfl, rfl, rfl⟩ := he
    have hgal := heap_lt hgb
    have r := fun (j : Nat) => cell_of_row W1 ga j _ _ _ hgb
    have c0' := (r _).trans c0
    have c1' := (r _).trans c1
    have c2' := (r _).trans c2
    have c3' := (r _).trans c3
    have d0' := (r _).trans d0
    have d1' := (r _).trans d1
    have d2' := (r _).trans d2
    have d3' := (r _).trans d3
    simp only [Nat.mul_zero, Nat.zero_add, Nat.mul_one] at c0' c1' c2' c3' d0' d1' d2' d3'
    have TA := Lib.hid ta
    have TB := Lib.hid tb
    have O0 := Lib.hid (hok.arg (i := 0) (by omega))
    have O1 := Lib.hid (hok.arg (i := 1) (by omega))
    have hga' : w.heap.size + 1 < ga := hga
    clear hfa hok hc r c0 c1 c2 c3 d0 d1 d2 d3 ta tb hgb hga
    have KP := Lib.hid (show ∀ w', Past (w.heap.size + 2) W1 w' → w'.cell? ⟨w1.heap.size, 3, none⟩ = some (.slice (some ⟨ga, 0, none⟩) 2 c) ∧ w'.cell? ⟨ga, 0, none⟩ = some (.int .i64 u0) ∧ w'.cell? ⟨ga, 1, none⟩ = some (.int .i64 u1) ∧ w'.cell? ⟨ga, 2, none⟩ = some (.string u2) ∧ w'.cell? ⟨ga, 3, none⟩ = some (.slice U0 um uc) ∧ w'.cell? ⟨ga, 4, none⟩ = some (.int .i64 v0) ∧ w'.cell? ⟨ga, 5, none⟩ = some (.int .i64 v1) ∧ w'.cell? ⟨ga, 6, none⟩ = some (.string v2) ∧ w'.cell? ⟨ga, 7, none⟩ = some (.slice V0 vm vc) from fun w' hw => by
      have q1 := fun (j : Nat) => World.cell?_of_block (w := W1) (w' := w') (a := ⟨w1.heap.size, j, none⟩) (hw _ hlw1)
      have q2 := fun (j : Nat) => World.cell?_of_block (w := W1) (w' := w') (a := ⟨ga, j, none⟩) (hw _ hga')
      exact ⟨(q1 3).trans b3, (q2 0).trans c0', (q2 1).trans c1', (q2 2).trans c2', (q2 3).trans c3', (q2 4).trans d0', (q2 5).trans d1', (q2 6).trans d2', (q2 7).trans d3'⟩)
    have P := Lib.hid (put_two XW.out YW.out (by omega) (Nat.le_refl _) (Nat.le_succ _) BW.out (.int .i64 u0) (.int .i64 u1) (.string u2) (.slice U0 um uc) (.int .i64 v0) (.int .i64 v1) (.string v2) (.slice V0 vm vc) rfl)
    clear c0' c1' c2' c3' d0' d1' d2' d3'
    go_upto_region 3 with fail
    rw [← hW1]
    clear hW1
    go_region_held3 (fun w' => w'.cell? ⟨w1.heap.size, 3, none⟩ = some (.slice (some ⟨ga, 0, none⟩) 2 c) ∧ w'.cell? ⟨ga, 0, none⟩ = some (.int .i64 u0) ∧ w'.cell? ⟨ga, 1, none⟩ = some (.int .i64 u1) ∧ w'.cell? ⟨ga, 2, none⟩ = some (.string u2) ∧ w'.cell? ⟨ga, 3, none⟩ = some (.slice U0 um uc) ∧ w'.cell? ⟨ga, 4, none⟩ = some (.int .i64 v0) ∧ w'.cell? ⟨ga, 5, none⟩ = some (.int .i64 v1) ∧ w'.cell? ⟨ga, 6, none⟩ = some (.string v2) ∧ w'.cell? ⟨ga, 7, none⟩ = some (.slice V0 vm vc)) ((refine KP.out _ ?_; (repeat (first | (with_reducible exact Past.refl _ _) | (with_reducible refine Past.drew ?_) | (with_reducible refine Past.set0 ?_ _ _) | (with_reducible refine Past.set1 ?_ _ _))); done)) (fail)
    go_wp2_with fail
    obtain ⟨p0, p1, p2, p3⟩ := box4 P.out.1
    obtain ⟨q0, q1, q2, q3⟩ := box4 P.out.2.1
    refine bodyPost_ret (v := .tuple #[.agg #[.int .i64 u0, .int .i64 u1, .string u2, .slice U0 um uc], .agg #[.int .i64 v0, .int .i64 v1, .string v2, .slice V0 vm vc]]) (by simp [results, go_sem, p0, p1, p2, p3, q0, q1, q2, q3]) rfl ?_
    have keep : ∀ {t : T} {v : Value}, TP W1 (fun b => w.heap.size + 1 < b) t v → TP _ (fun _ => True) t v := fun ht => ht.keep fun b cs f hS hh => ⟨(P.out.2.2.1 b (by omega) (by omega)).trans hh, trivial⟩
    exact ⟨⟨_, _, _, _, _, _, _, _, _, _, _, _, _, _, rfl, (keep TA.out).below (Below.refl _ _).drew, (keep TB.out).below (Below.refl _ _).drew, O0.out, O1.out⟩, P.out.2.2.2.drew⟩
  · have KP := Lib.hid (show ∀ w', Past (w.heap.size + 2) W1 w' → w'.cell? ⟨w1.heap.size, 0, none⟩ = some (.int .i64 k) ∧ w'.cell? ⟨w1.heap.size, 1, none⟩ = some (.int .i64 n) ∧ w'.cell? ⟨w1.heap.size, 2, none⟩ = some (.string tx) ∧ w'.cell? ⟨w1.heap.size, 3, none⟩ = some (.slice A m c) from fun w' hw => by
      have q1 := fun (j : Nat) => World.cell?_of_block (w := W1) (w' := w') (a := ⟨w1.heap.size, j, none⟩) (hw _ hlw1)
      exact ⟨(q1 0).trans b0, (q1 1).trans b1, (q1 2).trans b2, (q1 3).trans b3⟩)
    cases ha : (k == 4)
    · clear hall
      go_upto_region 4 with fail
      rw [← hW1]
      clear hW1
      go_region_held3 (fun w' => w'.cell? ⟨w1.heap.size, 0, none⟩ = some (.int .i64 k) ∧ w'.cell? ⟨w1.heap.size, 1, none⟩ = some (.int .i64 n) ∧ w'.cell? ⟨w1.heap.size, 2, none⟩ = some (.string tx) ∧ w'.cell? ⟨w1.heap.size, 3, none⟩ = some (.slice A m c)) ((refine KP.out _ ?_; (repeat (first | (with_reducible exact Past.refl _ _) | (with_reducible refine Past.drew ?_) | (with_reducible refine Past.set0 ?_ _ _) | (with_reducible refine Past.set1 ?_ _ _))); done)) (fail)
      go_wp2_with fail
      have P := Lib.hid (put_two XW.out YW.out (by omega) (Nat.le_refl _) (Nat.le_succ _) BW.out (.int .i64 1) (.int .i64 0) (.string ⟨#[]⟩) (.slice none 0 0) (.int .i64 k) (.int .i64 n) (.string tx) (.slice A m c) rfl)
      obtain ⟨p0, p1, p2, p3⟩ := box4 P.out.1
      obtain ⟨q0, q1, q2, q3⟩ := box4 P.out.2.1
      refine bodyPost_ret (v := .tuple #[.agg #[.int .i64 1, .int .i64 0, .string ⟨#[]⟩, .slice none 0 0], .agg #[.int .i64 k, .int .i64 n, .string tx, .slice A m c]]) (by simp [results, go_sem, p0, p1, p2, p3, q0, q1, q2, q3]) rfl ?_
      exact ⟨⟨_, _, _, _, _, _, _, _, _, _, _, _, .mk 1 0 ⟨#[]⟩ 0 fun _ => .nil, t, rfl, TP.leaf _ _ 1 0 ⟨#[]⟩, (TW.out.keep fun b cs f hS hh => ⟨(P.out.2.2.1 b (by omega) (by omega)).trans hh, trivial⟩).below (Below.refl _ _).drew,
        ⟨⟨.inl ⟨rfl, by omega, by omega, rfl, rfl⟩, fun i hi => absurd hi (by omega)⟩, by simp [T.nodes, sumTo]⟩, OK.out⟩, P.out.2.2.2.drew⟩
    · cases hb : (tx.toList == [61])
      · clear hall
        go_upto_region 4 with fail
        rw [← hW1]
        clear hW1
        go_region_held3 (fun w' => w'.cell? ⟨w1.heap.size, 0, none⟩ = some (.int .i64 k) ∧ w'.cell? ⟨w1.heap.size, 1, none⟩ = some (.int .i64 n) ∧ w'.cell? ⟨w1.heap.size, 2, none⟩ = some (.string tx) ∧ w'.cell? ⟨w1.heap.size, 3, none⟩ = some (.slice A m c)) ((refine KP.out _ ?_; (repeat (first | (with_reducible exact Past.refl _ _) | (with_reducible refine Past.drew ?_) | (with_reducible refine Past.set0 ?_ _ _) | (with_reducible refine Past.set1 ?_ _ _))); done)) (fail)
        go_wp2_with fail
        have P := Lib.hid (put_two XW.out YW.out (by omega) (Nat.le_refl _) (Nat.le_succ _) BW.out (.int .i64 1) (.int .i64 0) (.string ⟨#[]⟩) (.slice none 0 0) (.int .i64 k) (.int .i64 n) (.string tx) (.slice A m c) rfl)
        obtain ⟨p0, p1, p2, p3⟩ := box4 P.out.1
        obtain ⟨q0, q1, q2, q3⟩ := box4 P.out.2.1
        refine bodyPost_ret (v := .tuple #[.agg #[.int .i64 1, .int .i64 0, .string ⟨#[]⟩, .slice none 0 0], .agg #[.int .i64 k, .int .i64 n, .string tx, .slice A m c]]) (by simp [results, go_sem, p0, p1, p2, p3, q0, q1, q2, q3]) rfl ?_
        exact ⟨⟨_, _, _, _, _, _, _, _, _, _, _, _, .mk 1 0 ⟨#[]⟩ 0 fun _ => .nil, t, rfl, TP.leaf _ _ 1 0 ⟨#[]⟩, (TW.out.keep fun b cs f hS hh => ⟨(P.out.2.2.1 b (by omega) (by omega)).trans hh, trivial⟩).below (Below.refl _ _).drew,
          ⟨⟨.inl ⟨rfl, by omega, by omega, rfl, rfl⟩, fun i hi => absurd hi (by omega)⟩, by simp [T.nodes, sumTo]⟩, OK.out⟩, P.out.2.2.2.drew⟩
      · have hc2 : ((m : Int) == 2) = false := by
          rw [beq_eq_false_iff_ne]
          exact fun h => hall ⟨by simpa using ha, by simpa using hb, by omega⟩
        clear hall
        go_upto_region 4 with fail
        rw [← hW1]
        clear hW1
        go_region_held3 (fun w' => w'.cell? ⟨w1.heap.size, 0, none⟩ = some (.int .i64 k) ∧ w'.cell? ⟨w1.heap.size, 1, none⟩ = some (.int .i64 n) ∧ w'.cell? ⟨w1.heap.size, 2, none⟩ = some (.string tx) ∧ w'.cell? ⟨w1.heap.size, 3, none⟩ = some (.slice A m c)) ((refine KP.out _ ?_; (repeat (first | (with_reducible exact Past.refl _ _) | (with_reducible refine Past.drew ?_) | (with_reducible refine Past.set0 ?_ _ _) | (with_reducible refine Past.set1 ?_ _ _))); done)) (fail)
        go_wp2_with fail
        have P := Lib.hid (put_two XW.out YW.out (by omega) (Nat.le_refl _) (Nat.le_succ _) BW.out (.int .i64 1) (.int .i64 0) (.string ⟨#[]⟩) (.slice none 0 0) (.int .i64 k) (.int .i64 n) (.string tx) (.slice A m c) rfl)
        obtain ⟨p0, p1, p2, p3⟩ := box4 P.out.1
        obtain ⟨q0, q1, q2, q3⟩ := box4 P.out.2.1
        refine bodyPost_ret (v := .tuple #[.agg #[.int .i64 1, .int .i64 0, .string ⟨#[]⟩, .slice none 0 0], .agg #[.int .i64 k, .int .i64 n, .string tx, .slice A m c]]) (by simp [results, go_sem, p0, p1, p2, p3, q0, q1, q2, q3]) rfl ?_
        exact ⟨⟨_, _, _, _, _, _, _, _, _, _, _, _, .mk 1 0 ⟨#[]⟩ 0 fun _ => .nil, t, rfl, TP.leaf _ _ 1 0 ⟨#[]⟩, (TW.out.keep fun b cs f hS hh => ⟨(P.out.2.2.1 b (by omega) (by omega)).trans hh, trivial⟩).below (Below.refl _ _).drew,
          ⟨⟨.inl ⟨rfl, by omega, by omega, rfl, rfl⟩, fun i hi => absurd hi (by omega)⟩, by simp [T.nodes, sumTo]⟩, OK.out⟩, P.out.2.2.2.drew⟩
end Go.Proofs.Ytjjkigphfijnbaa
