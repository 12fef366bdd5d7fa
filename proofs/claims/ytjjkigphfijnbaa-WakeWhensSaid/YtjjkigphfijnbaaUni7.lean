/- The walk through unify.one: one pair. -/
import Derived.Test.YtjjkigphfijnbaaStep
import Derived.Deep.DeepCutAuto
import Derived.Deep.DrawnRows
namespace Go.Proofs.Ytjjkigphfijnbaa
open Go.RowKit
attribute [local go_sem ↓] Go.wp_at_zero Go.wp_at_succ

/-- What 'one' comes to. -/
def OneP (L : Bs) (ta tb : T) (w : World) (eb mb N : Nat) (e : Ending) (w' : World) : Prop := match stepU L (walkN L ta) (walkN L tb) with
  | .fail => e = .returned (.tuple #[.int .i64 (-1), .slice none 0 0, .int .i64 80]) ∧ EnvP w' eb mb N L ∧ But mb w w'
  | .bind n t => e = .returned (.tuple #[.int .i64 n, .slice none 0 0, .int .i64 0]) ∧ EnvP w' eb mb (N + 1) (L ++ [(n, t)]) ∧ But mb w w'
  | .args m g h => ∃ v, e = .returned (.tuple #[.int .i64 (-1), v, .int .i64 0]) ∧ PRow w' w.heap.size v (pairsOf m g h) ∧ EnvP w' eb mb N L ∧ But mb w w'
theorem box8 {w : World} {g : Nat} {t : TypeId} {f : Nat × Nat} {a b c d a' b' c' d' : Value} (h : w.heap[g]? = some (.cells #[a, b, c, d, a', b', c', d'] t f)) :
    w.cell? ⟨g, 0, none⟩ = some a ∧ w.cell? ⟨g, 1, none⟩ = some b ∧ w.cell? ⟨g, 2, none⟩ = some c ∧ w.cell? ⟨g, 3, none⟩ = some d ∧ w.cell? ⟨g, 4, none⟩ = some a' ∧ w.cell? ⟨g, 5, none⟩ = some b' ∧ w.cell? ⟨g, 6, none⟩ = some c' ∧ w.cell? ⟨g, 7, none⟩ = some d' :=
  ⟨cell_of_row w g 0 _ _ _ h, cell_of_row w g 1 _ _ _ h, cell_of_row w g 2 _ _ _ h, cell_of_row w g 3 _ _ _ h, cell_of_row w g 4 _ _ _ h, cell_of_row w g 5 _ _ _ h, cell_of_row w g 6 _ _ _ h, cell_of_row w g 7 _ _ _ h⟩
theorem bel_alloc {w w1 : World} (h : Below w.heap.size w w1) (o : Obj) : Below w.heap.size w (w1.alloc o) := h.alloc h.size o
theorem bel_set {w w1 : World} {k i : Nat} (h : Below w.heap.size w w1) (hk : w.heap.size ≤ k) (v : Value) : Below w.heap.size w (w1.setCell ⟨k, i, none⟩ v) := h.setCell (p := ⟨k, i, none⟩) hk v
theorem bel_call {w w1 w2 : World} (h : Below w.heap.size w w1) (k : Below w1.heap.size w1 w2) : Below w.heap.size w w2 := h.trans (k.mono h.size)
abbrev zC : Obj := .cells #[.int .i64 0, .int .i64 0, .string ⟨#[]⟩, .slice none 0 0] 34 (0, 0)
theorem carry_last {Y w' : World} (h : Below (Y.alloc (.cells #[.int .i64 0, .int .i64 0, .string ⟨#[]⟩, .slice none 0 0] 34)).heap.size (Y.alloc (.cells #[.int .i64 0, .int .i64 0, .string ⟨#[]⟩, .slice none 0 0] 34)) w') : w'.heap[Y.heap.size]? = some zC := (h.block _ (by simp)).trans (heap_alloc_new _ _)
theorem carry_last_d {Y w' : World} (h : Below (Y.alloc (.cells #[.int .i64 0, .int .i64 0, .string ⟨#[]⟩, .slice none 0 0] 34)).drew.heap.size (Y.alloc (.cells #[.int .i64 0, .int .i64 0, .string ⟨#[]⟩, .slice none 0 0] 34)).drew w') : w'.heap[Y.heap.size]? = some zC := (h.block _ (by simp)).trans (heap_alloc_new _ _)
theorem carry_last2 {X w' : World} {o : Obj} (h : Below ((X.alloc (.cells #[.int .i64 0, .int .i64 0, .string ⟨#[]⟩, .slice none 0 0] 34)).alloc o).heap.size ((X.alloc (.cells #[.int .i64 0, .int .i64 0, .string ⟨#[]⟩, .slice none 0 0] 34)).alloc o) w') : w'.heap[X.heap.size]? = some zC :=
  (h.block _ (by simp; omega)).trans ((Below.heap_alloc _ _ _ (by simp)).trans (heap_alloc_new _ _))
theorem carry_last2_d {X w' : World} {o : Obj} (h : Below ((X.alloc (.cells #[.int .i64 0, .int .i64 0, .string ⟨#[]⟩, .slice none 0 0] 34)).alloc o).drew.heap.size ((X.alloc (.cells #[.int .i64 0, .int .i64 0, .string ⟨#[]⟩, .slice none 0 0] 34)).alloc o).drew w') : w'.heap[X.heap.size]? = some zC :=
  (h.block _ (by simp; omega)).trans ((Below.heap_alloc _ _ _ (by simp)).trans (heap_alloc_new _ _))
theorem carry_last3 {X w' : World} (h : Below ((X.alloc (.cells #[.int .i64 0, .int .i64 0, .string ⟨#[]⟩, .slice none 0 0] 34)).alloc (.cells #[.int .i64 0, .int .i64 0, .string ⟨#[]⟩, .slice none 0 0] 34)).heap.size ((X.alloc (.cells #[.int .i64 0, .int .i64 0, .string ⟨#[]⟩, .slice none 0 0] 34)).alloc (.cells #[.int .i64 0, .int .i64 0, .string ⟨#[]⟩, .slice none 0 0] 34)) w') : w'.heap[X.heap.size + 1]? = some zC :=
  (h.block _ (by simp)).trans ((congrArg _ (by simp)).trans (heap_alloc_new _ _))
theorem carry_last3_d {X w' : World} (h : Below ((X.alloc (.cells #[.int .i64 0, .int .i64 0, .string ⟨#[]⟩, .slice none 0 0] 34)).alloc (.cells #[.int .i64 0, .int .i64 0, .string ⟨#[]⟩, .slice none 0 0] 34)).drew.heap.size ((X.alloc (.cells #[.int .i64 0, .int .i64 0, .string ⟨#[]⟩, .slice none 0 0] 34)).alloc (.cells #[.int .i64 0, .int .i64 0, .string ⟨#[]⟩, .slice none 0 0] 34)).drew w') : w'.heap[X.heap.size + 1]? = some zC :=
  (h.block _ (by simp)).trans ((congrArg _ (by simp)).trans (heap_alloc_new _ _))
theorem carry_old {X w' : World} {k : Nat} (hk : X.heap[k]? = some zC) (h : Below X.heap.size X w') : w'.heap[k]? = some zC := (h.block _ (heap_lt hk)).trans hk
theorem carry_old1 {X w' : World} {k : Nat} {o : Obj} (hk : X.heap[k]? = some zC) (h : Below (X.alloc o).heap.size (X.alloc o) w') : w'.heap[k]? = some zC := (h.block _ (by have := heap_lt hk; simp; omega)).trans ((Below.heap_alloc _ _ _ (heap_lt hk)).trans hk)
theorem carry_old2 {X w' : World} {k : Nat} {o o' : Obj} (hk : X.heap[k]? = some zC) (h : Below ((X.alloc o).alloc o').heap.size ((X.alloc o).alloc o') w') : w'.heap[k]? = some zC :=
  (h.block _ (by have := heap_lt hk; simp; omega)).trans ((Below.heap_alloc _ _ _ (by have := heap_lt hk; simp; omega)).trans ((Below.heap_alloc _ _ _ (heap_lt hk)).trans hk))
/-- What is known of a box that was made ahead of a call. -/
theorem kn {w : World} {k : Nat} (h : w.heap[k]? = some zC) : Hid (w.heap[k]? = some zC) ∧ (w.cell? ⟨k, 0, none⟩ = some (.int .i64 0) ∧ w.cell? ⟨k, 1, none⟩ = some (.int .i64 0) ∧ w.cell? ⟨k, 2, none⟩ = some (.string ⟨#[]⟩) ∧ w.cell? ⟨k, 3, none⟩ = some (.slice none 0 0) ∧ (∀ j, w.frozen? ⟨k, j, none⟩ = false) ∧ k < w.heap.size) := by
  obtain ⟨h0, h1, h2, h3⟩ := box4 h
  exact ⟨Lib.hid h, h0, h1, h2, h3, fun j => by simp [World.frozen?, h], heap_lt h⟩
theorem put4_same {w : World} {k : Nat} {u0 u1 u2 u3 : Value} {ty : TypeId} {m : Nat × Nat} (h : w.heap[k]? = some (.cells #[u0, u1, u2, u3] ty m)) (x0 x1 x2 x3 : Value) :
    ((((w.setCell ⟨k, 0, none⟩ x0).setCell ⟨k, 1, none⟩ x1).setCell ⟨k, 2, none⟩ x2).setCell ⟨k, 3, none⟩ x3).heap[k]? = some (.cells #[x0, x1, x2, x3] ty m) := (box_put4 h x0 x1 x2 x3 rfl).1
theorem put4_other {w : World} {k j : Nat} (hne : j ≠ k) (x0 x1 x2 x3 : Value) : ((((w.setCell ⟨k, 0, none⟩ x0).setCell ⟨k, 1, none⟩ x1).setCell ⟨k, 2, none⟩ x2).setCell ⟨k, 3, none⟩ x3).heap[j]? = w.heap[j]? := by
  rw [Below.heap_setCell _ _ _ j hne, Below.heap_setCell _ _ _ j hne, Below.heap_setCell _ _ _ j hne, Below.heap_setCell _ _ _ j hne]
theorem EnvP.is {w : World} {eb mb N : Nat} {L : Bs} (h : EnvP w eb mb N L) : IsMapAt w mb := by
  obtain ⟨M, hM, _⟩ := h.map
  exact hM.is
/-- Every block of terms is as it was. -/
def FarT (w w' : World) : Prop := ∀ (b : Nat) (cs : Array Value) (f : Nat × Nat), w.heap[b]? = some (.cells cs 34 f) → w'.heap[b]? = w.heap[b]?
theorem FarT.below {w w' : World} (h : Below w.heap.size w w') : FarT w w' := fun b _ _ hh => h.block b (heap_lt hh)
theorem FarT.row {w w1 w2 : World} {B : Nat} {v : Value} {n : Nat} {xs : List Value} (hx : w.ownsRow B 69 8 v n xs) (hb : Below w.heap.size w w1) (hg : w1.grownBy w2 v.ownBlock) : FarT w w2 := fun b cs f hh => by
  have h1 := (hb.block b (heap_lt hh))
  refine (hg.block b (Nat.lt_of_lt_of_le (heap_lt hh) hb.size) fun e => ?_).trans h1
  obtain ⟨c, fz, h2⟩ := Go.Lib.ownsRow_kind (own_below hx hb) b e.symm
  rw [h1.trans hh] at h2
  injection h2 with h2
  injection h2 with _ h2
  exact absurd h2 (by decide)
theorem FarT.cell {w w' : World} (h : FarT w w') {b i : Nat} {cs : Array Value} {f : Nat × Nat} (hb : w.heap[b]? = some (.cells cs 34 f)) : w'.cell? ⟨b, i, none⟩ = w.cell? ⟨b, i, none⟩ := World.cell?_of_block (w := w) (h b cs f hb)
theorem TP.blk {w : World} {S : Nat → Prop} {k n : Int} {s : ByteArray} {m : Nat} {a : Nat → T} {v0 v1 v2 : Value} {b m' c : Nat} (h : TP w S (.mk k n s m a) (.agg #[v0, v1, v2, .slice (some ⟨b, 0, none⟩) m' c])) (hm : 0 < m) : ∃ cs f, w.heap[b]? = some (.cells cs 34 f) := by
  obtain ⟨A', c', e, _, _, hx⟩ := h
  injection e with e
  simp only [Array.mk.injEq, List.cons.injEq, and_true] at e
  obtain ⟨_, _, _, e⟩ := e
  injection e with e1 _ _
  obtain ⟨b', cs, f, hA, _, hb, _⟩ := hx hm
  rw [← e1] at hA
  injection hA with hA
  injection hA with hA
  subst hA
  exact ⟨cs, f, hb⟩
theorem pairsOf_succ (m : Nat) (g h : Nat → T) : pairsOf (m + 1) g h = pairsOf m g h ++ [(g m, h m)] := by
  simp [pairsOf, List.range_succ]
theorem pairsOf_length (m : Nat) (g h : Nat → T) : (pairsOf m g h).length = m := by simp [pairsOf]
/-- One pair more in a row. -/
theorem after_push {pb w w1 w2 : World} {v : Value} {i : Nat} {fa fb : Nat → T} {xs : List Value} {u0 u1 : Int} {u2 : ByteArray} {U0 : Option Addr} {um uc : Nat} {v0 v1 : Int} {v2 : ByteArray} {V0 : Option Addr} {vm vc : Nat} {g cap : Nat} (hl : Below pb.heap.size pb w)
    (hx : w.ownsRow pb.heap.size 69 8 v i xs) (hp : ∀ q p, (pairsOf i fa fb)[q]? = some p → ∃ k0 k1 k2 A0 m0 c0 j0 j1 j2 B0 n0 d0, PCell w xs q p k0 k1 k2 A0 m0 c0 j0 j1 j2 B0 n0 d0) (hb : Below w.heap.size w w1)
    (ha : TP pb (fun _ => True) (fa i) (.agg #[.int .i64 u0, .int .i64 u1, .string u2, .slice U0 um uc])) (hbb : TP pb (fun _ => True) (fb i) (.agg #[.int .i64 v0, .int .i64 v1, .string v2, .slice V0 vm vc]))
    (hown : w2.ownsRow pb.heap.size 69 8 (.slice (some ⟨g, 0, none⟩) (i + 1) cap) (i + 1) (xs ++ [.int .i64 u0, .int .i64 u1, .string u2, .slice U0 um uc, .int .i64 v0, .int .i64 v1, .string v2, .slice V0 vm vc])) (hg : w1.grownBy w2 v.ownBlock) :
    FarT w w2 ∧ Below pb.heap.size pb w2 ∧ PRow w2 pb.heap.size (.slice (some ⟨g, 0, none⟩) (i + 1) cap) (pairsOf (i + 1) fa fb) := by
  have h1 := hl.trans (hb.mono hl.size)
  refine ⟨FarT.row hx hb hg, h1.grown hg h1.size fun k hk => (hx.lt k hk).1, ?_⟩
  rw [pairsOf_succ]
  exact PRow.push (by rw [pairsOf_length]; exact hx) hp hb (ha.below h1) (hbb.below h1) (by rw [pairsOf_length]; exact hown) hg
/-- Behind both walks: the boxes of what both sides stand for. -/
structure Two (pb W : World) (L : Bs) (ta tb : T) (g7 g8 : Nat) (p0 p1 : Int) (p2 : ByteArray) (pA : Option Addr) (pm pc : Nat) (q0 q1 : Int) (q2 : ByteArray) (qA : Option Addr) (qm qc : Nat) : Prop where
  low : Below pb.heap.size pb W
  h7 : W.heap[g7]? = some (.cells #[.int .i64 p0, .int .i64 p1, .string p2, .slice pA pm pc] 34 (0, 0))
  h8 : W.heap[g8]? = some (.cells #[.int .i64 q0, .int .i64 q1, .string q2, .slice qA qm qc] 34 (0, 0))
  ne : g7 ≠ g8
  l7 : pb.heap.size ≤ g7
  l8 : pb.heap.size ≤ g8
  ta : TP pb (fun _ => True) (walkN L ta) (.agg #[.int .i64 p0, .int .i64 p1, .string p2, .slice pA pm pc])
  tb : TP pb (fun _ => True) (walkN L tb) (.agg #[.int .i64 q0, .int .i64 q1, .string q2, .slice qA qm qc])
theorem Two.below {pb W W' : World} {L : Bs} {ta tb : T} {g7 g8 : Nat} {p0 p1 : Int} {p2 : ByteArray} {pA : Option Addr} {pm pc : Nat} {q0 q1 : Int} {q2 : ByteArray} {qA : Option Addr} {qm qc : Nat} (h : Two pb W L ta tb g7 g8 p0 p1 p2 pA pm pc q0 q1 q2 qA qm qc) (hb : Below W.heap.size W W') : Two pb W' L ta tb g7 g8 p0 p1 p2 pA pm pc q0 q1 q2 qA qm qc :=
  ⟨bel_call h.low hb, (hb.block _ (heap_lt h.h7)).trans h.h7, (hb.block _ (heap_lt h.h8)).trans h.h8, h.ne, h.l7, h.l8, h.ta, h.tb⟩
theorem two1 {pb X : World} {L : Bs} {ta tb : T} {p0 p1 : Int} {p2 : ByteArray} {pA : Option Addr} {pm pc : Nat} {q0 q1 : Int} {q2 : ByteArray} {qA : Option Addr} {qm qc : Nat} (hX : Below pb.heap.size pb X) (hta : TP pb (fun _ => True) (walkN L ta) (.agg #[.int .i64 p0, .int .i64 p1, .string p2, .slice pA pm pc])) (htb : TP pb (fun _ => True) (walkN L tb) (.agg #[.int .i64 q0, .int .i64 q1, .string q2, .slice qA qm qc])) : Two pb ((X.alloc (Obj.cells #[.int .i64 p0, .int .i64 p1, .string p2, .slice pA pm pc] 34)).alloc (Obj.cells #[.int .i64 q0, .int .i64 q1, .string q2, .slice qA qm qc] 34)) L ta tb X.heap.size (X.heap.size + 1) p0 p1 p2 pA pm pc q0 q1 q2 qA qm qc :=
  ⟨bel_alloc (bel_alloc hX _) _, (Below.heap_alloc _ _ _ (by simp)).trans (heap_alloc_new _ _), (congrArg _ (by simp)).trans (heap_alloc_new _ _), by omega, hX.size, by have := hX.size; omega, hta, htb⟩
theorem two1' {pb X : World} {L : Bs} {ta tb : T} {p0 p1 : Int} {p2 : ByteArray} {pA : Option Addr} {pm pc : Nat} {q0 q1 : Int} {q2 : ByteArray} {qA : Option Addr} {qm qc : Nat} (hX : Below pb.heap.size pb X) (hta : TP pb (fun _ => True) (walkN L ta) (.agg #[.int .i64 p0, .int .i64 p1, .string p2, .slice pA pm pc])) (htb : TP pb (fun _ => True) (walkN L tb) (.agg #[.int .i64 q0, .int .i64 q1, .string q2, .slice qA qm qc])) : Two pb ((X.alloc (Obj.cells #[.int .i64 q0, .int .i64 q1, .string q2, .slice qA qm qc] 34)).alloc (Obj.cells #[.int .i64 p0, .int .i64 p1, .string p2, .slice pA pm pc] 34)) L ta tb (X.heap.size + 1) X.heap.size p0 p1 p2 pA pm pc q0 q1 q2 qA qm qc :=
  ⟨bel_alloc (bel_alloc hX _) _, (congrArg _ (by simp)).trans (heap_alloc_new _ _), (Below.heap_alloc _ _ _ (by simp)).trans (heap_alloc_new _ _), by omega, by have := hX.size; omega, hX.size, hta, htb⟩
theorem two2 {pb X : World} {L : Bs} {ta tb : T} {p0 p1 : Int} {p2 : ByteArray} {pA : Option Addr} {pm pc : Nat} {q0 q1 : Int} {q2 : ByteArray} {qA : Option Addr} {qm qc : Nat} {k : Nat} (hX : Below pb.heap.size pb X) (hk : X.heap[k]? = some zC) (hl : pb.heap.size ≤ k) (hta : TP pb (fun _ => True) (walkN L ta) (.agg #[.int .i64 p0, .int .i64 p1, .string p2, .slice pA pm pc])) (htb : TP pb (fun _ => True) (walkN L tb) (.agg #[.int .i64 q0, .int .i64 q1, .string q2, .slice qA qm qc])) : Two pb ((((((X).setCell ⟨k, 0, none⟩ (.int .i64 p0)).setCell ⟨k, 1, none⟩ (.int .i64 p1)).setCell ⟨k, 2, none⟩ (.string p2)).setCell ⟨k, 3, none⟩ (.slice pA pm pc)).alloc (Obj.cells #[.int .i64 q0, .int .i64 q1, .string q2, .slice qA qm qc] 34)) L ta tb k X.heap.size p0 p1 p2 pA pm pc q0 q1 q2 qA qm qc :=
  ⟨bel_alloc (bel_set (bel_set (bel_set (bel_set hX hl _) hl _) hl _) hl _) _, (Below.heap_alloc _ _ _ (by have := heap_lt hk; simp; omega)).trans (put4_same hk _ _ _ _), (congrArg _ (by simp)).trans (heap_alloc_new _ _), by have := heap_lt hk; omega, hl, hX.size, hta, htb⟩
theorem two2' {pb X : World} {L : Bs} {ta tb : T} {p0 p1 : Int} {p2 : ByteArray} {pA : Option Addr} {pm pc : Nat} {q0 q1 : Int} {q2 : ByteArray} {qA : Option Addr} {qm qc : Nat} {k : Nat} (hX : Below pb.heap.size pb X) (hk : X.heap[k]? = some zC) (hl : pb.heap.size ≤ k) (hta : TP pb (fun _ => True) (walkN L ta) (.agg #[.int .i64 p0, .int .i64 p1, .string p2, .slice pA pm pc])) (htb : TP pb (fun _ => True) (walkN L tb) (.agg #[.int .i64 q0, .int .i64 q1, .string q2, .slice qA qm qc])) : Two pb ((((((X).setCell ⟨k, 0, none⟩ (.int .i64 q0)).setCell ⟨k, 1, none⟩ (.int .i64 q1)).setCell ⟨k, 2, none⟩ (.string q2)).setCell ⟨k, 3, none⟩ (.slice qA qm qc)).alloc (Obj.cells #[.int .i64 p0, .int .i64 p1, .string p2, .slice pA pm pc] 34)) L ta tb X.heap.size k p0 p1 p2 pA pm pc q0 q1 q2 qA qm qc :=
  ⟨bel_alloc (bel_set (bel_set (bel_set (bel_set hX hl _) hl _) hl _) hl _) _, (congrArg _ (by simp)).trans (heap_alloc_new _ _), (Below.heap_alloc _ _ _ (by have := heap_lt hk; simp; omega)).trans (put4_same hk _ _ _ _), by have := heap_lt hk; omega, hX.size, hl, hta, htb⟩
theorem two3 {pb X : World} {L : Bs} {ta tb : T} {p0 p1 : Int} {p2 : ByteArray} {pA : Option Addr} {pm pc : Nat} {q0 q1 : Int} {q2 : ByteArray} {qA : Option Addr} {qm qc : Nat} {k j : Nat} (hX : Below pb.heap.size pb X) (hk : X.heap[k]? = some zC) (hj : X.heap[j]? = some zC) (hl : pb.heap.size ≤ k) (hl' : pb.heap.size ≤ j) (hne : k ≠ j) (hta : TP pb (fun _ => True) (walkN L ta) (.agg #[.int .i64 p0, .int .i64 p1, .string p2, .slice pA pm pc])) (htb : TP pb (fun _ => True) (walkN L tb) (.agg #[.int .i64 q0, .int .i64 q1, .string q2, .slice qA qm qc])) : Two pb (((((((((((X).setCell ⟨k, 0, none⟩ (.int .i64 p0)).setCell ⟨k, 1, none⟩ (.int .i64 p1)).setCell ⟨k, 2, none⟩ (.string p2)).setCell ⟨k, 3, none⟩ (.slice pA pm pc))).setCell ⟨j, 0, none⟩ (.int .i64 q0)).setCell ⟨j, 1, none⟩ (.int .i64 q1)).setCell ⟨j, 2, none⟩ (.string q2)).setCell ⟨j, 3, none⟩ (.slice qA qm qc))) L ta tb k j p0 p1 p2 pA pm pc q0 q1 q2 qA qm qc :=
  ⟨bel_set (bel_set (bel_set (bel_set (bel_set (bel_set (bel_set (bel_set hX hl _) hl _) hl _) hl _) hl' _) hl' _) hl' _) hl' _, (put4_other hne _ _ _ _).trans (put4_same hk _ _ _ _), put4_same ((put4_other (fun e => hne e.symm) _ _ _ _).trans hj) _ _ _ _, hne, hl, hl', hta, htb⟩
theorem two3' {pb X : World} {L : Bs} {ta tb : T} {p0 p1 : Int} {p2 : ByteArray} {pA : Option Addr} {pm pc : Nat} {q0 q1 : Int} {q2 : ByteArray} {qA : Option Addr} {qm qc : Nat} {k j : Nat} (hX : Below pb.heap.size pb X) (hk : X.heap[k]? = some zC) (hj : X.heap[j]? = some zC) (hl : pb.heap.size ≤ k) (hl' : pb.heap.size ≤ j) (hne : k ≠ j) (hta : TP pb (fun _ => True) (walkN L ta) (.agg #[.int .i64 p0, .int .i64 p1, .string p2, .slice pA pm pc])) (htb : TP pb (fun _ => True) (walkN L tb) (.agg #[.int .i64 q0, .int .i64 q1, .string q2, .slice qA qm qc])) : Two pb (((((((((((X).setCell ⟨j, 0, none⟩ (.int .i64 q0)).setCell ⟨j, 1, none⟩ (.int .i64 q1)).setCell ⟨j, 2, none⟩ (.string q2)).setCell ⟨j, 3, none⟩ (.slice qA qm qc))).setCell ⟨k, 0, none⟩ (.int .i64 p0)).setCell ⟨k, 1, none⟩ (.int .i64 p1)).setCell ⟨k, 2, none⟩ (.string p2)).setCell ⟨k, 3, none⟩ (.slice pA pm pc))) L ta tb k j p0 p1 p2 pA pm pc q0 q1 q2 qA qm qc :=
  ⟨bel_set (bel_set (bel_set (bel_set (bel_set (bel_set (bel_set (bel_set hX hl' _) hl' _) hl' _) hl' _) hl _) hl _) hl _) hl _, put4_same ((put4_other hne _ _ _ _).trans hk) _ _ _ _, (put4_other (fun e => hne e.symm) _ _ _ _).trans (put4_same hj _ _ _ _), hne, hl, hl', hta, htb⟩
set_option maxRecDepth 100000 in
set_option maxHeartbeats 16000000 in
theorem uone_any {w : World} {eb mb N : Nat} {L : Bs} (h : EnvP w eb mb N L) (hN : N + 1 ≤ 1000000) {ta tb : T} {k0 k1 : Int} {k2 : ByteArray} {A0 : Option Addr} {m0 c0 : Nat} {j0 j1 : Int} {j2 : ByteArray} {B0 : Option Addr} {n0 d0 : Nat}
    (ha : TP w (fun _ => True) ta (.agg #[.int .i64 k0, .int .i64 k1, .string k2, .slice A0 m0 c0])) (hb : TP w (fun _ => True) tb (.agg #[.int .i64 j0, .int .i64 j1, .string j2, .slice B0 n0 d0])) (oa : ta.ok) (ob : tb.ok) :
    Calls Try.prog 34 #[.pointer (some ⟨eb, 0, none⟩), .agg #[.int .i64 k0, .int .i64 k1, .string k2, .slice A0 m0 c0, .int .i64 j0, .int .i64 j1, .string j2, .slice B0 n0 d0]] w fun e w' => OneP L ta tb w eb mb N e w' := by
  obtain ⟨pb, hpb⟩ : ∃ pb, pb = w.alloc (Obj.cells #[.int .i64 k0, .int .i64 k1, .string k2, .slice A0 m0 c0, .int .i64 j0, .int .i64 j1, .string j2, .slice B0 n0 d0] 69) := ⟨_, rfl⟩
  have Bp : Below w.heap.size w pb := by rw [hpb]; exact (Below.refl _ _).alloc (Nat.le_refl _) _
  have gp : pb.heap[w.heap.size]? = some (.cells #[.int .i64 k0, .int .i64 k1, .string k2, .slice A0 m0 c0, .int .i64 j0, .int .i64 j1, .string j2, .slice B0 n0 d0] 69 (0, 0)) := by rw [hpb]; exact heap_alloc_new _ _
  have BP := Lib.hid Bp
  have GP := Lib.hid gp
  have H := Lib.hid (h.below Bp)
  have hlt := heap_lt gp
  have CA := Lib.hid (show ∀ W, Below pb.heap.size pb W → Calls Try.prog 37 #[.pointer (some ⟨eb, 0, none⟩), .agg #[.int .i64 k0, .int .i64 k1, .string k2, .slice A0 m0 c0]] W fun e w' => (∃ v', e = .returned v' ∧ TP pb (fun _ => True) (walkN L ta) v') ∧ Below W.heap.size W w' from fun W hW =>
    uwalk_any (h.below Bp) (ha.below Bp) oa hW)
  have CB := Lib.hid (show ∀ W, Below pb.heap.size pb W → Calls Try.prog 37 #[.pointer (some ⟨eb, 0, none⟩), .agg #[.int .i64 j0, .int .i64 j1, .string j2, .slice B0 n0 d0]] W fun e w' => (∃ v', e = .returned v' ∧ TP pb (fun _ => True) (walkN L tb) v') ∧ Below W.heap.size W w' from fun W hW =>
    uwalk_any (h.below Bp) (hb.below Bp) ob hW)
  have KP := Lib.hid (show ∀ w', Below pb.heap.size pb w' → w'.cell? ⟨w.heap.size, 0, none⟩ = some (.int .i64 k0) ∧ w'.cell? ⟨w.heap.size, 1, none⟩ = some (.int .i64 k1) ∧ w'.cell? ⟨w.heap.size, 2, none⟩ = some (.string k2) ∧ w'.cell? ⟨w.heap.size, 3, none⟩ = some (.slice A0 m0 c0) ∧
      w'.cell? ⟨w.heap.size, 4, none⟩ = some (.int .i64 j0) ∧ w'.cell? ⟨w.heap.size, 5, none⟩ = some (.int .i64 j1) ∧ w'.cell? ⟨w.heap.size, 6, none⟩ = some (.string j2) ∧ w'.cell? ⟨w.heap.size, 7, none⟩ = some (.slice B0 n0 d0) from fun w' hw => box8 ((hw.block _ hlt).trans GP.out))
  clear Bp gp h ha hb
  go_enter Try.func34, Try.ntmps34
  go_upto_region 1 with (fail)
  rw [← hpb]
  clear hpb
  go_cut [7, 8] (fun s7 s8 wx => ∃ g7 g8 p0 p1 p2 pA pm pc q0 q1 q2 qA qm qc, s7 = .pointer (some ⟨g7, 0, none⟩) ∧ s8 = .pointer (some ⟨g8, 0, none⟩) ∧ Two pb wx L ta tb g7 g8 p0 p1 p2 pA pm pc q0 q1 q2 qA qm qc)
  case first =>
    go_region_held3 (fun w' => w'.cell? ⟨w.heap.size, 0, none⟩ = some (.int .i64 k0) ∧ w'.cell? ⟨w.heap.size, 1, none⟩ = some (.int .i64 k1) ∧ w'.cell? ⟨w.heap.size, 2, none⟩ = some (.string k2) ∧ w'.cell? ⟨w.heap.size, 3, none⟩ = some (.slice A0 m0 c0) ∧
      w'.cell? ⟨w.heap.size, 4, none⟩ = some (.int .i64 j0) ∧ w'.cell? ⟨w.heap.size, 5, none⟩ = some (.int .i64 j1) ∧ w'.cell? ⟨w.heap.size, 6, none⟩ = some (.string j2) ∧ w'.cell? ⟨w.heap.size, 7, none⟩ = some (.slice B0 n0 d0))
      (first | (refine KP.out _ ?_; (repeat (first | (with_reducible assumption) | (with_reducible exact Below.refl _ _) | (with_reducible refine Below.drew ?_) | (with_reducible refine bel_alloc ?_ _) | (with_reducible refine bel_set ?_ (by first | omega | (simp; omega)) _))); done))
      (first
       | (go_at_call 37; (with_reducible refine (CA.out _ (by (repeat (first | (with_reducible assumption) | (with_reducible exact Below.refl _ _) | (with_reducible refine Below.drew ?_) | (with_reducible refine bel_alloc ?_ _) | (with_reducible refine bel_set ?_ (by first | omega | (simp; omega)) _))))).mono ?_); rintro e wa ⟨⟨va, rfl, hta⟩, hwa⟩; have bwa : Below pb.heap.size pb wa := bel_call (by (repeat (first | (with_reducible assumption) | (with_reducible exact Below.refl _ _) | (with_reducible refine Below.drew ?_) | (with_reducible refine bel_alloc ?_ _) | (with_reducible refine bel_set ?_ (by first | omega | (simp; omega)) _)))) hwa; have hza := bwa.size; obtain ⟨p0, p1, p2, pA, pm, pc, rfl⟩ := hta.agg; (try (with_reducible have r1a := kn (carry_last hwa))); (try (with_reducible have r1a := kn (carry_last_d hwa))); (try (with_reducible have r2a := kn (carry_last2 hwa))); (try (with_reducible have r2a := kn (carry_last2_d hwa))); (try (with_reducible have r3a := kn (carry_old r1b.1.out hwa))); (try (with_reducible have r3a := kn (carry_old1 r1b.1.out hwa))); (try (with_reducible have r3a := kn (carry_old2 r1b.1.out hwa))); (try (with_reducible have r4a := kn (carry_old r2b.1.out hwa))); (try (with_reducible have r4a := kn (carry_old1 r2b.1.out hwa))); (try (with_reducible have r5a := kn (carry_last3 hwa))); (try (with_reducible have r5a := kn (carry_last3_d hwa))); (try (with_reducible have r6a := kn (carry_old r5b.1.out hwa))); (try (obtain ⟨f50, f51, f52, f53, f54, f55⟩ := r5a.2)); (try (obtain ⟨f60, f61, f62, f63, f64, f65⟩ := r6a.2)); (try (obtain ⟨f10, f11, f12, f13, f14, f15⟩ := r1a.2)); (try (obtain ⟨f20, f21, f22, f23, f24, f25⟩ := r2a.2)); (try (obtain ⟨f30, f31, f32, f33, f34, f35⟩ := r3a.2)); (try (obtain ⟨f40, f41, f42, f43, f44, f45⟩ := r4a.2)))
       | (go_at_call 37; (with_reducible refine (CB.out _ (by (repeat (first | (with_reducible assumption) | (with_reducible exact Below.refl _ _) | (with_reducible refine Below.drew ?_) | (with_reducible refine bel_alloc ?_ _) | (with_reducible refine bel_set ?_ (by first | omega | (simp; omega)) _))))).mono ?_); rintro e wb ⟨⟨vb, rfl, htb⟩, hwb⟩; have bwb : Below pb.heap.size pb wb := bel_call (by (repeat (first | (with_reducible assumption) | (with_reducible exact Below.refl _ _) | (with_reducible refine Below.drew ?_) | (with_reducible refine bel_alloc ?_ _) | (with_reducible refine bel_set ?_ (by first | omega | (simp; omega)) _)))) hwb; have hzb := bwb.size; obtain ⟨q0, q1, q2, qA, qm, qc, rfl⟩ := htb.agg; (try (with_reducible have r1b := kn (carry_last hwb))); (try (with_reducible have r1b := kn (carry_last_d hwb))); (try (with_reducible have r2b := kn (carry_last2 hwb))); (try (with_reducible have r2b := kn (carry_last2_d hwb))); (try (with_reducible have r3b := kn (carry_old r1a.1.out hwb))); (try (with_reducible have r3b := kn (carry_old1 r1a.1.out hwb))); (try (with_reducible have r3b := kn (carry_old2 r1a.1.out hwb))); (try (with_reducible have r4b := kn (carry_old r2a.1.out hwb))); (try (with_reducible have r4b := kn (carry_old1 r2a.1.out hwb))); (try (with_reducible have r5b := kn (carry_last3 hwb))); (try (with_reducible have r5b := kn (carry_last3_d hwb))); (try (with_reducible have r6b := kn (carry_old r5a.1.out hwb))); (try (obtain ⟨f50, f51, f52, f53, f54, f55⟩ := r5b.2)); (try (obtain ⟨f60, f61, f62, f63, f64, f65⟩ := r6b.2)); (try (obtain ⟨f10, f11, f12, f13, f14, f15⟩ := r1b.2)); (try (obtain ⟨f20, f21, f22, f23, f24, f25⟩ := r2b.2)); (try (obtain ⟨f30, f31, f32, f33, f34, f35⟩ := r3b.2)); (try (obtain ⟨f40, f41, f42, f43, f44, f45⟩ := r4b.2))))
    all_goals go_wp2_with fail
    all_goals go_meet
    all_goals first
      | (with_reducible exact ⟨_, _, p0, p1, p2, pA, pm, pc, q0, q1, q2, qA, qm, qc, rfl, rfl, two1 bwb hta htb⟩)
      | (with_reducible exact ⟨_, _, p0, p1, p2, pA, pm, pc, q0, q1, q2, qA, qm, qc, rfl, rfl, two1' bwb hta htb⟩)
      | (with_reducible exact ⟨_, _, p0, p1, p2, pA, pm, pc, q0, q1, q2, qA, qm, qc, rfl, rfl, two1 bwa hta htb⟩)
      | (with_reducible exact ⟨_, _, p0, p1, p2, pA, pm, pc, q0, q1, q2, qA, qm, qc, rfl, rfl, two1' bwa hta htb⟩)
      | (with_reducible exact ⟨_, _, p0, p1, p2, pA, pm, pc, q0, q1, q2, qA, qm, qc, rfl, rfl, two2 bwb r1b.1.out (by omega) hta htb⟩)
      | (with_reducible exact ⟨_, _, p0, p1, p2, pA, pm, pc, q0, q1, q2, qA, qm, qc, rfl, rfl, two2' bwb r1b.1.out (by omega) hta htb⟩)
      | (with_reducible exact ⟨_, _, p0, p1, p2, pA, pm, pc, q0, q1, q2, qA, qm, qc, rfl, rfl, two2 bwb r2b.1.out (by omega) hta htb⟩)
      | (with_reducible exact ⟨_, _, p0, p1, p2, pA, pm, pc, q0, q1, q2, qA, qm, qc, rfl, rfl, two2' bwb r2b.1.out (by omega) hta htb⟩)
      | (with_reducible exact ⟨_, _, p0, p1, p2, pA, pm, pc, q0, q1, q2, qA, qm, qc, rfl, rfl, two2 bwb r3b.1.out (by omega) hta htb⟩)
      | (with_reducible exact ⟨_, _, p0, p1, p2, pA, pm, pc, q0, q1, q2, qA, qm, qc, rfl, rfl, two2' bwb r3b.1.out (by omega) hta htb⟩)
      | (with_reducible exact ⟨_, _, p0, p1, p2, pA, pm, pc, q0, q1, q2, qA, qm, qc, rfl, rfl, two2 bwb r4b.1.out (by omega) hta htb⟩)
      | (with_reducible exact ⟨_, _, p0, p1, p2, pA, pm, pc, q0, q1, q2, qA, qm, qc, rfl, rfl, two2' bwb r4b.1.out (by omega) hta htb⟩)
      | (with_reducible exact ⟨_, _, p0, p1, p2, pA, pm, pc, q0, q1, q2, qA, qm, qc, rfl, rfl, two2 bwb r5b.1.out (by omega) hta htb⟩)
      | (with_reducible exact ⟨_, _, p0, p1, p2, pA, pm, pc, q0, q1, q2, qA, qm, qc, rfl, rfl, two2' bwb r5b.1.out (by omega) hta htb⟩)
      | (with_reducible exact ⟨_, _, p0, p1, p2, pA, pm, pc, q0, q1, q2, qA, qm, qc, rfl, rfl, two2 bwb r6b.1.out (by omega) hta htb⟩)
      | (with_reducible exact ⟨_, _, p0, p1, p2, pA, pm, pc, q0, q1, q2, qA, qm, qc, rfl, rfl, two2' bwb r6b.1.out (by omega) hta htb⟩)
      | (with_reducible exact ⟨_, _, p0, p1, p2, pA, pm, pc, q0, q1, q2, qA, qm, qc, rfl, rfl, two2 bwa r1a.1.out (by omega) hta htb⟩)
      | (with_reducible exact ⟨_, _, p0, p1, p2, pA, pm, pc, q0, q1, q2, qA, qm, qc, rfl, rfl, two2' bwa r1a.1.out (by omega) hta htb⟩)
      | (with_reducible exact ⟨_, _, p0, p1, p2, pA, pm, pc, q0, q1, q2, qA, qm, qc, rfl, rfl, two2 bwa r2a.1.out (by omega) hta htb⟩)
      | (with_reducible exact ⟨_, _, p0, p1, p2, pA, pm, pc, q0, q1, q2, qA, qm, qc, rfl, rfl, two2' bwa r2a.1.out (by omega) hta htb⟩)
      | (with_reducible exact ⟨_, _, p0, p1, p2, pA, pm, pc, q0, q1, q2, qA, qm, qc, rfl, rfl, two2 bwa r3a.1.out (by omega) hta htb⟩)
      | (with_reducible exact ⟨_, _, p0, p1, p2, pA, pm, pc, q0, q1, q2, qA, qm, qc, rfl, rfl, two2' bwa r3a.1.out (by omega) hta htb⟩)
      | (with_reducible exact ⟨_, _, p0, p1, p2, pA, pm, pc, q0, q1, q2, qA, qm, qc, rfl, rfl, two2 bwa r4a.1.out (by omega) hta htb⟩)
      | (with_reducible exact ⟨_, _, p0, p1, p2, pA, pm, pc, q0, q1, q2, qA, qm, qc, rfl, rfl, two2' bwa r4a.1.out (by omega) hta htb⟩)
      | (with_reducible exact ⟨_, _, p0, p1, p2, pA, pm, pc, q0, q1, q2, qA, qm, qc, rfl, rfl, two2 bwa r5a.1.out (by omega) hta htb⟩)
      | (with_reducible exact ⟨_, _, p0, p1, p2, pA, pm, pc, q0, q1, q2, qA, qm, qc, rfl, rfl, two2' bwa r5a.1.out (by omega) hta htb⟩)
      | (with_reducible exact ⟨_, _, p0, p1, p2, pA, pm, pc, q0, q1, q2, qA, qm, qc, rfl, rfl, two2 bwa r6a.1.out (by omega) hta htb⟩)
      | (with_reducible exact ⟨_, _, p0, p1, p2, pA, pm, pc, q0, q1, q2, qA, qm, qc, rfl, rfl, two2' bwa r6a.1.out (by omega) hta htb⟩)
      | (with_reducible exact ⟨_, _, p0, p1, p2, pA, pm, pc, q0, q1, q2, qA, qm, qc, rfl, rfl, two3 bwb r1b.1.out r2b.1.out (by omega) (by omega) (by omega) hta htb⟩)
      | (with_reducible exact ⟨_, _, p0, p1, p2, pA, pm, pc, q0, q1, q2, qA, qm, qc, rfl, rfl, two3' bwb r1b.1.out r2b.1.out (by omega) (by omega) (by omega) hta htb⟩)
      | (with_reducible exact ⟨_, _, p0, p1, p2, pA, pm, pc, q0, q1, q2, qA, qm, qc, rfl, rfl, two3 bwb r1b.1.out r3b.1.out (by omega) (by omega) (by omega) hta htb⟩)
      | (with_reducible exact ⟨_, _, p0, p1, p2, pA, pm, pc, q0, q1, q2, qA, qm, qc, rfl, rfl, two3' bwb r1b.1.out r3b.1.out (by omega) (by omega) (by omega) hta htb⟩)
      | (with_reducible exact ⟨_, _, p0, p1, p2, pA, pm, pc, q0, q1, q2, qA, qm, qc, rfl, rfl, two3 bwb r1b.1.out r4b.1.out (by omega) (by omega) (by omega) hta htb⟩)
      | (with_reducible exact ⟨_, _, p0, p1, p2, pA, pm, pc, q0, q1, q2, qA, qm, qc, rfl, rfl, two3' bwb r1b.1.out r4b.1.out (by omega) (by omega) (by omega) hta htb⟩)
      | (with_reducible exact ⟨_, _, p0, p1, p2, pA, pm, pc, q0, q1, q2, qA, qm, qc, rfl, rfl, two3 bwb r1b.1.out r5b.1.out (by omega) (by omega) (by omega) hta htb⟩)
      | (with_reducible exact ⟨_, _, p0, p1, p2, pA, pm, pc, q0, q1, q2, qA, qm, qc, rfl, rfl, two3' bwb r1b.1.out r5b.1.out (by omega) (by omega) (by omega) hta htb⟩)
      | (with_reducible exact ⟨_, _, p0, p1, p2, pA, pm, pc, q0, q1, q2, qA, qm, qc, rfl, rfl, two3 bwb r1b.1.out r6b.1.out (by omega) (by omega) (by omega) hta htb⟩)
      | (with_reducible exact ⟨_, _, p0, p1, p2, pA, pm, pc, q0, q1, q2, qA, qm, qc, rfl, rfl, two3' bwb r1b.1.out r6b.1.out (by omega) (by omega) (by omega) hta htb⟩)
      | (with_reducible exact ⟨_, _, p0, p1, p2, pA, pm, pc, q0, q1, q2, qA, qm, qc, rfl, rfl, two3 bwb r2b.1.out r1b.1.out (by omega) (by omega) (by omega) hta htb⟩)
      | (with_reducible exact ⟨_, _, p0, p1, p2, pA, pm, pc, q0, q1, q2, qA, qm, qc, rfl, rfl, two3' bwb r2b.1.out r1b.1.out (by omega) (by omega) (by omega) hta htb⟩)
      | (with_reducible exact ⟨_, _, p0, p1, p2, pA, pm, pc, q0, q1, q2, qA, qm, qc, rfl, rfl, two3 bwb r2b.1.out r3b.1.out (by omega) (by omega) (by omega) hta htb⟩)
      | (with_reducible exact ⟨_, _, p0, p1, p2, pA, pm, pc, q0, q1, q2, qA, qm, qc, rfl, rfl, two3' bwb r2b.1.out r3b.1.out (by omega) (by omega) (by omega) hta htb⟩)
      | (with_reducible exact ⟨_, _, p0, p1, p2, pA, pm, pc, q0, q1, q2, qA, qm, qc, rfl, rfl, two3 bwb r2b.1.out r4b.1.out (by omega) (by omega) (by omega) hta htb⟩)
      | (with_reducible exact ⟨_, _, p0, p1, p2, pA, pm, pc, q0, q1, q2, qA, qm, qc, rfl, rfl, two3' bwb r2b.1.out r4b.1.out (by omega) (by omega) (by omega) hta htb⟩)
      | (with_reducible exact ⟨_, _, p0, p1, p2, pA, pm, pc, q0, q1, q2, qA, qm, qc, rfl, rfl, two3 bwb r2b.1.out r5b.1.out (by omega) (by omega) (by omega) hta htb⟩)
      | (with_reducible exact ⟨_, _, p0, p1, p2, pA, pm, pc, q0, q1, q2, qA, qm, qc, rfl, rfl, two3' bwb r2b.1.out r5b.1.out (by omega) (by omega) (by omega) hta htb⟩)
      | (with_reducible exact ⟨_, _, p0, p1, p2, pA, pm, pc, q0, q1, q2, qA, qm, qc, rfl, rfl, two3 bwb r2b.1.out r6b.1.out (by omega) (by omega) (by omega) hta htb⟩)
      | (with_reducible exact ⟨_, _, p0, p1, p2, pA, pm, pc, q0, q1, q2, qA, qm, qc, rfl, rfl, two3' bwb r2b.1.out r6b.1.out (by omega) (by omega) (by omega) hta htb⟩)
      | (with_reducible exact ⟨_, _, p0, p1, p2, pA, pm, pc, q0, q1, q2, qA, qm, qc, rfl, rfl, two3 bwb r3b.1.out r1b.1.out (by omega) (by omega) (by omega) hta htb⟩)
      | (with_reducible exact ⟨_, _, p0, p1, p2, pA, pm, pc, q0, q1, q2, qA, qm, qc, rfl, rfl, two3' bwb r3b.1.out r1b.1.out (by omega) (by omega) (by omega) hta htb⟩)
      | (with_reducible exact ⟨_, _, p0, p1, p2, pA, pm, pc, q0, q1, q2, qA, qm, qc, rfl, rfl, two3 bwb r3b.1.out r2b.1.out (by omega) (by omega) (by omega) hta htb⟩)
      | (with_reducible exact ⟨_, _, p0, p1, p2, pA, pm, pc, q0, q1, q2, qA, qm, qc, rfl, rfl, two3' bwb r3b.1.out r2b.1.out (by omega) (by omega) (by omega) hta htb⟩)
      | (with_reducible exact ⟨_, _, p0, p1, p2, pA, pm, pc, q0, q1, q2, qA, qm, qc, rfl, rfl, two3 bwb r3b.1.out r4b.1.out (by omega) (by omega) (by omega) hta htb⟩)
      | (with_reducible exact ⟨_, _, p0, p1, p2, pA, pm, pc, q0, q1, q2, qA, qm, qc, rfl, rfl, two3' bwb r3b.1.out r4b.1.out (by omega) (by omega) (by omega) hta htb⟩)
      | (with_reducible exact ⟨_, _, p0, p1, p2, pA, pm, pc, q0, q1, q2, qA, qm, qc, rfl, rfl, two3 bwb r3b.1.out r5b.1.out (by omega) (by omega) (by omega) hta htb⟩)
      | (with_reducible exact ⟨_, _, p0, p1, p2, pA, pm, pc, q0, q1, q2, qA, qm, qc, rfl, rfl, two3' bwb r3b.1.out r5b.1.out (by omega) (by omega) (by omega) hta htb⟩)
      | (with_reducible exact ⟨_, _, p0, p1, p2, pA, pm, pc, q0, q1, q2, qA, qm, qc, rfl, rfl, two3 bwb r3b.1.out r6b.1.out (by omega) (by omega) (by omega) hta htb⟩)
      | (with_reducible exact ⟨_, _, p0, p1, p2, pA, pm, pc, q0, q1, q2, qA, qm, qc, rfl, rfl, two3' bwb r3b.1.out r6b.1.out (by omega) (by omega) (by omega) hta htb⟩)
      | (with_reducible exact ⟨_, _, p0, p1, p2, pA, pm, pc, q0, q1, q2, qA, qm, qc, rfl, rfl, two3 bwb r4b.1.out r1b.1.out (by omega) (by omega) (by omega) hta htb⟩)
      | (with_reducible exact ⟨_, _, p0, p1, p2, pA, pm, pc, q0, q1, q2, qA, qm, qc, rfl, rfl, two3' bwb r4b.1.out r1b.1.out (by omega) (by omega) (by omega) hta htb⟩)
      | (with_reducible exact ⟨_, _, p0, p1, p2, pA, pm, pc, q0, q1, q2, qA, qm, qc, rfl, rfl, two3 bwb r4b.1.out r2b.1.out (by omega) (by omega) (by omega) hta htb⟩)
      | (with_reducible exact ⟨_, _, p0, p1, p2, pA, pm, pc, q0, q1, q2, qA, qm, qc, rfl, rfl, two3' bwb r4b.1.out r2b.1.out (by omega) (by omega) (by omega) hta htb⟩)
      | (with_reducible exact ⟨_, _, p0, p1, p2, pA, pm, pc, q0, q1, q2, qA, qm, qc, rfl, rfl, two3 bwb r4b.1.out r3b.1.out (by omega) (by omega) (by omega) hta htb⟩)
      | (with_reducible exact ⟨_, _, p0, p1, p2, pA, pm, pc, q0, q1, q2, qA, qm, qc, rfl, rfl, two3' bwb r4b.1.out r3b.1.out (by omega) (by omega) (by omega) hta htb⟩)
      | (with_reducible exact ⟨_, _, p0, p1, p2, pA, pm, pc, q0, q1, q2, qA, qm, qc, rfl, rfl, two3 bwb r4b.1.out r5b.1.out (by omega) (by omega) (by omega) hta htb⟩)
      | (with_reducible exact ⟨_, _, p0, p1, p2, pA, pm, pc, q0, q1, q2, qA, qm, qc, rfl, rfl, two3' bwb r4b.1.out r5b.1.out (by omega) (by omega) (by omega) hta htb⟩)
      | (with_reducible exact ⟨_, _, p0, p1, p2, pA, pm, pc, q0, q1, q2, qA, qm, qc, rfl, rfl, two3 bwb r4b.1.out r6b.1.out (by omega) (by omega) (by omega) hta htb⟩)
      | (with_reducible exact ⟨_, _, p0, p1, p2, pA, pm, pc, q0, q1, q2, qA, qm, qc, rfl, rfl, two3' bwb r4b.1.out r6b.1.out (by omega) (by omega) (by omega) hta htb⟩)
      | (with_reducible exact ⟨_, _, p0, p1, p2, pA, pm, pc, q0, q1, q2, qA, qm, qc, rfl, rfl, two3 bwb r5b.1.out r1b.1.out (by omega) (by omega) (by omega) hta htb⟩)
      | (with_reducible exact ⟨_, _, p0, p1, p2, pA, pm, pc, q0, q1, q2, qA, qm, qc, rfl, rfl, two3' bwb r5b.1.out r1b.1.out (by omega) (by omega) (by omega) hta htb⟩)
      | (with_reducible exact ⟨_, _, p0, p1, p2, pA, pm, pc, q0, q1, q2, qA, qm, qc, rfl, rfl, two3 bwb r5b.1.out r2b.1.out (by omega) (by omega) (by omega) hta htb⟩)
      | (with_reducible exact ⟨_, _, p0, p1, p2, pA, pm, pc, q0, q1, q2, qA, qm, qc, rfl, rfl, two3' bwb r5b.1.out r2b.1.out (by omega) (by omega) (by omega) hta htb⟩)
      | (with_reducible exact ⟨_, _, p0, p1, p2, pA, pm, pc, q0, q1, q2, qA, qm, qc, rfl, rfl, two3 bwb r5b.1.out r3b.1.out (by omega) (by omega) (by omega) hta htb⟩)
      | (with_reducible exact ⟨_, _, p0, p1, p2, pA, pm, pc, q0, q1, q2, qA, qm, qc, rfl, rfl, two3' bwb r5b.1.out r3b.1.out (by omega) (by omega) (by omega) hta htb⟩)
      | (with_reducible exact ⟨_, _, p0, p1, p2, pA, pm, pc, q0, q1, q2, qA, qm, qc, rfl, rfl, two3 bwb r5b.1.out r4b.1.out (by omega) (by omega) (by omega) hta htb⟩)
      | (with_reducible exact ⟨_, _, p0, p1, p2, pA, pm, pc, q0, q1, q2, qA, qm, qc, rfl, rfl, two3' bwb r5b.1.out r4b.1.out (by omega) (by omega) (by omega) hta htb⟩)
      | (with_reducible exact ⟨_, _, p0, p1, p2, pA, pm, pc, q0, q1, q2, qA, qm, qc, rfl, rfl, two3 bwb r5b.1.out r6b.1.out (by omega) (by omega) (by omega) hta htb⟩)
      | (with_reducible exact ⟨_, _, p0, p1, p2, pA, pm, pc, q0, q1, q2, qA, qm, qc, rfl, rfl, two3' bwb r5b.1.out r6b.1.out (by omega) (by omega) (by omega) hta htb⟩)
      | (with_reducible exact ⟨_, _, p0, p1, p2, pA, pm, pc, q0, q1, q2, qA, qm, qc, rfl, rfl, two3 bwb r6b.1.out r1b.1.out (by omega) (by omega) (by omega) hta htb⟩)
      | (with_reducible exact ⟨_, _, p0, p1, p2, pA, pm, pc, q0, q1, q2, qA, qm, qc, rfl, rfl, two3' bwb r6b.1.out r1b.1.out (by omega) (by omega) (by omega) hta htb⟩)
      | (with_reducible exact ⟨_, _, p0, p1, p2, pA, pm, pc, q0, q1, q2, qA, qm, qc, rfl, rfl, two3 bwb r6b.1.out r2b.1.out (by omega) (by omega) (by omega) hta htb⟩)
      | (with_reducible exact ⟨_, _, p0, p1, p2, pA, pm, pc, q0, q1, q2, qA, qm, qc, rfl, rfl, two3' bwb r6b.1.out r2b.1.out (by omega) (by omega) (by omega) hta htb⟩)
      | (with_reducible exact ⟨_, _, p0, p1, p2, pA, pm, pc, q0, q1, q2, qA, qm, qc, rfl, rfl, two3 bwb r6b.1.out r3b.1.out (by omega) (by omega) (by omega) hta htb⟩)
      | (with_reducible exact ⟨_, _, p0, p1, p2, pA, pm, pc, q0, q1, q2, qA, qm, qc, rfl, rfl, two3' bwb r6b.1.out r3b.1.out (by omega) (by omega) (by omega) hta htb⟩)
      | (with_reducible exact ⟨_, _, p0, p1, p2, pA, pm, pc, q0, q1, q2, qA, qm, qc, rfl, rfl, two3 bwb r6b.1.out r4b.1.out (by omega) (by omega) (by omega) hta htb⟩)
      | (with_reducible exact ⟨_, _, p0, p1, p2, pA, pm, pc, q0, q1, q2, qA, qm, qc, rfl, rfl, two3' bwb r6b.1.out r4b.1.out (by omega) (by omega) (by omega) hta htb⟩)
      | (with_reducible exact ⟨_, _, p0, p1, p2, pA, pm, pc, q0, q1, q2, qA, qm, qc, rfl, rfl, two3 bwb r6b.1.out r5b.1.out (by omega) (by omega) (by omega) hta htb⟩)
      | (with_reducible exact ⟨_, _, p0, p1, p2, pA, pm, pc, q0, q1, q2, qA, qm, qc, rfl, rfl, two3' bwb r6b.1.out r5b.1.out (by omega) (by omega) (by omega) hta htb⟩)
      | (with_reducible exact ⟨_, _, p0, p1, p2, pA, pm, pc, q0, q1, q2, qA, qm, qc, rfl, rfl, two3 bwa r1a.1.out r2a.1.out (by omega) (by omega) (by omega) hta htb⟩)
      | (with_reducible exact ⟨_, _, p0, p1, p2, pA, pm, pc, q0, q1, q2, qA, qm, qc, rfl, rfl, two3' bwa r1a.1.out r2a.1.out (by omega) (by omega) (by omega) hta htb⟩)
      | (with_reducible exact ⟨_, _, p0, p1, p2, pA, pm, pc, q0, q1, q2, qA, qm, qc, rfl, rfl, two3 bwa r1a.1.out r3a.1.out (by omega) (by omega) (by omega) hta htb⟩)
      | (with_reducible exact ⟨_, _, p0, p1, p2, pA, pm, pc, q0, q1, q2, qA, qm, qc, rfl, rfl, two3' bwa r1a.1.out r3a.1.out (by omega) (by omega) (by omega) hta htb⟩)
      | (with_reducible exact ⟨_, _, p0, p1, p2, pA, pm, pc, q0, q1, q2, qA, qm, qc, rfl, rfl, two3 bwa r1a.1.out r4a.1.out (by omega) (by omega) (by omega) hta htb⟩)
      | (with_reducible exact ⟨_, _, p0, p1, p2, pA, pm, pc, q0, q1, q2, qA, qm, qc, rfl, rfl, two3' bwa r1a.1.out r4a.1.out (by omega) (by omega) (by omega) hta htb⟩)
      | (with_reducible exact ⟨_, _, p0, p1, p2, pA, pm, pc, q0, q1, q2, qA, qm, qc, rfl, rfl, two3 bwa r1a.1.out r5a.1.out (by omega) (by omega) (by omega) hta htb⟩)
      | (with_reducible exact ⟨_, _, p0, p1, p2, pA, pm, pc, q0, q1, q2, qA, qm, qc, rfl, rfl, two3' bwa r1a.1.out r5a.1.out (by omega) (by omega) (by omega) hta htb⟩)
      | (with_reducible exact ⟨_, _, p0, p1, p2, pA, pm, pc, q0, q1, q2, qA, qm, qc, rfl, rfl, two3 bwa r1a.1.out r6a.1.out (by omega) (by omega) (by omega) hta htb⟩)
      | (with_reducible exact ⟨_, _, p0, p1, p2, pA, pm, pc, q0, q1, q2, qA, qm, qc, rfl, rfl, two3' bwa r1a.1.out r6a.1.out (by omega) (by omega) (by omega) hta htb⟩)
      | (with_reducible exact ⟨_, _, p0, p1, p2, pA, pm, pc, q0, q1, q2, qA, qm, qc, rfl, rfl, two3 bwa r2a.1.out r1a.1.out (by omega) (by omega) (by omega) hta htb⟩)
      | (with_reducible exact ⟨_, _, p0, p1, p2, pA, pm, pc, q0, q1, q2, qA, qm, qc, rfl, rfl, two3' bwa r2a.1.out r1a.1.out (by omega) (by omega) (by omega) hta htb⟩)
      | (with_reducible exact ⟨_, _, p0, p1, p2, pA, pm, pc, q0, q1, q2, qA, qm, qc, rfl, rfl, two3 bwa r2a.1.out r3a.1.out (by omega) (by omega) (by omega) hta htb⟩)
      | (with_reducible exact ⟨_, _, p0, p1, p2, pA, pm, pc, q0, q1, q2, qA, qm, qc, rfl, rfl, two3' bwa r2a.1.out r3a.1.out (by omega) (by omega) (by omega) hta htb⟩)
      | (with_reducible exact ⟨_, _, p0, p1, p2, pA, pm, pc, q0, q1, q2, qA, qm, qc, rfl, rfl, two3 bwa r2a.1.out r4a.1.out (by omega) (by omega) (by omega) hta htb⟩)
      | (with_reducible exact ⟨_, _, p0, p1, p2, pA, pm, pc, q0, q1, q2, qA, qm, qc, rfl, rfl, two3' bwa r2a.1.out r4a.1.out (by omega) (by omega) (by omega) hta htb⟩)
      | (with_reducible exact ⟨_, _, p0, p1, p2, pA, pm, pc, q0, q1, q2, qA, qm, qc, rfl, rfl, two3 bwa r2a.1.out r5a.1.out (by omega) (by omega) (by omega) hta htb⟩)
      | (with_reducible exact ⟨_, _, p0, p1, p2, pA, pm, pc, q0, q1, q2, qA, qm, qc, rfl, rfl, two3' bwa r2a.1.out r5a.1.out (by omega) (by omega) (by omega) hta htb⟩)
      | (with_reducible exact ⟨_, _, p0, p1, p2, pA, pm, pc, q0, q1, q2, qA, qm, qc, rfl, rfl, two3 bwa r2a.1.out r6a.1.out (by omega) (by omega) (by omega) hta htb⟩)
      | (with_reducible exact ⟨_, _, p0, p1, p2, pA, pm, pc, q0, q1, q2, qA, qm, qc, rfl, rfl, two3' bwa r2a.1.out r6a.1.out (by omega) (by omega) (by omega) hta htb⟩)
      | (with_reducible exact ⟨_, _, p0, p1, p2, pA, pm, pc, q0, q1, q2, qA, qm, qc, rfl, rfl, two3 bwa r3a.1.out r1a.1.out (by omega) (by omega) (by omega) hta htb⟩)
      | (with_reducible exact ⟨_, _, p0, p1, p2, pA, pm, pc, q0, q1, q2, qA, qm, qc, rfl, rfl, two3' bwa r3a.1.out r1a.1.out (by omega) (by omega) (by omega) hta htb⟩)
      | (with_reducible exact ⟨_, _, p0, p1, p2, pA, pm, pc, q0, q1, q2, qA, qm, qc, rfl, rfl, two3 bwa r3a.1.out r2a.1.out (by omega) (by omega) (by omega) hta htb⟩)
      | (with_reducible exact ⟨_, _, p0, p1, p2, pA, pm, pc, q0, q1, q2, qA, qm, qc, rfl, rfl, two3' bwa r3a.1.out r2a.1.out (by omega) (by omega) (by omega) hta htb⟩)
      | (with_reducible exact ⟨_, _, p0, p1, p2, pA, pm, pc, q0, q1, q2, qA, qm, qc, rfl, rfl, two3 bwa r3a.1.out r4a.1.out (by omega) (by omega) (by omega) hta htb⟩)
      | (with_reducible exact ⟨_, _, p0, p1, p2, pA, pm, pc, q0, q1, q2, qA, qm, qc, rfl, rfl, two3' bwa r3a.1.out r4a.1.out (by omega) (by omega) (by omega) hta htb⟩)
      | (with_reducible exact ⟨_, _, p0, p1, p2, pA, pm, pc, q0, q1, q2, qA, qm, qc, rfl, rfl, two3 bwa r3a.1.out r5a.1.out (by omega) (by omega) (by omega) hta htb⟩)
      | (with_reducible exact ⟨_, _, p0, p1, p2, pA, pm, pc, q0, q1, q2, qA, qm, qc, rfl, rfl, two3' bwa r3a.1.out r5a.1.out (by omega) (by omega) (by omega) hta htb⟩)
      | (with_reducible exact ⟨_, _, p0, p1, p2, pA, pm, pc, q0, q1, q2, qA, qm, qc, rfl, rfl, two3 bwa r3a.1.out r6a.1.out (by omega) (by omega) (by omega) hta htb⟩)
      | (with_reducible exact ⟨_, _, p0, p1, p2, pA, pm, pc, q0, q1, q2, qA, qm, qc, rfl, rfl, two3' bwa r3a.1.out r6a.1.out (by omega) (by omega) (by omega) hta htb⟩)
      | (with_reducible exact ⟨_, _, p0, p1, p2, pA, pm, pc, q0, q1, q2, qA, qm, qc, rfl, rfl, two3 bwa r4a.1.out r1a.1.out (by omega) (by omega) (by omega) hta htb⟩)
      | (with_reducible exact ⟨_, _, p0, p1, p2, pA, pm, pc, q0, q1, q2, qA, qm, qc, rfl, rfl, two3' bwa r4a.1.out r1a.1.out (by omega) (by omega) (by omega) hta htb⟩)
      | (with_reducible exact ⟨_, _, p0, p1, p2, pA, pm, pc, q0, q1, q2, qA, qm, qc, rfl, rfl, two3 bwa r4a.1.out r2a.1.out (by omega) (by omega) (by omega) hta htb⟩)
      | (with_reducible exact ⟨_, _, p0, p1, p2, pA, pm, pc, q0, q1, q2, qA, qm, qc, rfl, rfl, two3' bwa r4a.1.out r2a.1.out (by omega) (by omega) (by omega) hta htb⟩)
      | (with_reducible exact ⟨_, _, p0, p1, p2, pA, pm, pc, q0, q1, q2, qA, qm, qc, rfl, rfl, two3 bwa r4a.1.out r3a.1.out (by omega) (by omega) (by omega) hta htb⟩)
      | (with_reducible exact ⟨_, _, p0, p1, p2, pA, pm, pc, q0, q1, q2, qA, qm, qc, rfl, rfl, two3' bwa r4a.1.out r3a.1.out (by omega) (by omega) (by omega) hta htb⟩)
      | (with_reducible exact ⟨_, _, p0, p1, p2, pA, pm, pc, q0, q1, q2, qA, qm, qc, rfl, rfl, two3 bwa r4a.1.out r5a.1.out (by omega) (by omega) (by omega) hta htb⟩)
      | (with_reducible exact ⟨_, _, p0, p1, p2, pA, pm, pc, q0, q1, q2, qA, qm, qc, rfl, rfl, two3' bwa r4a.1.out r5a.1.out (by omega) (by omega) (by omega) hta htb⟩)
      | (with_reducible exact ⟨_, _, p0, p1, p2, pA, pm, pc, q0, q1, q2, qA, qm, qc, rfl, rfl, two3 bwa r4a.1.out r6a.1.out (by omega) (by omega) (by omega) hta htb⟩)
      | (with_reducible exact ⟨_, _, p0, p1, p2, pA, pm, pc, q0, q1, q2, qA, qm, qc, rfl, rfl, two3' bwa r4a.1.out r6a.1.out (by omega) (by omega) (by omega) hta htb⟩)
      | (with_reducible exact ⟨_, _, p0, p1, p2, pA, pm, pc, q0, q1, q2, qA, qm, qc, rfl, rfl, two3 bwa r5a.1.out r1a.1.out (by omega) (by omega) (by omega) hta htb⟩)
      | (with_reducible exact ⟨_, _, p0, p1, p2, pA, pm, pc, q0, q1, q2, qA, qm, qc, rfl, rfl, two3' bwa r5a.1.out r1a.1.out (by omega) (by omega) (by omega) hta htb⟩)
      | (with_reducible exact ⟨_, _, p0, p1, p2, pA, pm, pc, q0, q1, q2, qA, qm, qc, rfl, rfl, two3 bwa r5a.1.out r2a.1.out (by omega) (by omega) (by omega) hta htb⟩)
      | (with_reducible exact ⟨_, _, p0, p1, p2, pA, pm, pc, q0, q1, q2, qA, qm, qc, rfl, rfl, two3' bwa r5a.1.out r2a.1.out (by omega) (by omega) (by omega) hta htb⟩)
      | (with_reducible exact ⟨_, _, p0, p1, p2, pA, pm, pc, q0, q1, q2, qA, qm, qc, rfl, rfl, two3 bwa r5a.1.out r3a.1.out (by omega) (by omega) (by omega) hta htb⟩)
      | (with_reducible exact ⟨_, _, p0, p1, p2, pA, pm, pc, q0, q1, q2, qA, qm, qc, rfl, rfl, two3' bwa r5a.1.out r3a.1.out (by omega) (by omega) (by omega) hta htb⟩)
      | (with_reducible exact ⟨_, _, p0, p1, p2, pA, pm, pc, q0, q1, q2, qA, qm, qc, rfl, rfl, two3 bwa r5a.1.out r4a.1.out (by omega) (by omega) (by omega) hta htb⟩)
      | (with_reducible exact ⟨_, _, p0, p1, p2, pA, pm, pc, q0, q1, q2, qA, qm, qc, rfl, rfl, two3' bwa r5a.1.out r4a.1.out (by omega) (by omega) (by omega) hta htb⟩)
      | (with_reducible exact ⟨_, _, p0, p1, p2, pA, pm, pc, q0, q1, q2, qA, qm, qc, rfl, rfl, two3 bwa r5a.1.out r6a.1.out (by omega) (by omega) (by omega) hta htb⟩)
      | (with_reducible exact ⟨_, _, p0, p1, p2, pA, pm, pc, q0, q1, q2, qA, qm, qc, rfl, rfl, two3' bwa r5a.1.out r6a.1.out (by omega) (by omega) (by omega) hta htb⟩)
      | (with_reducible exact ⟨_, _, p0, p1, p2, pA, pm, pc, q0, q1, q2, qA, qm, qc, rfl, rfl, two3 bwa r6a.1.out r1a.1.out (by omega) (by omega) (by omega) hta htb⟩)
      | (with_reducible exact ⟨_, _, p0, p1, p2, pA, pm, pc, q0, q1, q2, qA, qm, qc, rfl, rfl, two3' bwa r6a.1.out r1a.1.out (by omega) (by omega) (by omega) hta htb⟩)
      | (with_reducible exact ⟨_, _, p0, p1, p2, pA, pm, pc, q0, q1, q2, qA, qm, qc, rfl, rfl, two3 bwa r6a.1.out r2a.1.out (by omega) (by omega) (by omega) hta htb⟩)
      | (with_reducible exact ⟨_, _, p0, p1, p2, pA, pm, pc, q0, q1, q2, qA, qm, qc, rfl, rfl, two3' bwa r6a.1.out r2a.1.out (by omega) (by omega) (by omega) hta htb⟩)
      | (with_reducible exact ⟨_, _, p0, p1, p2, pA, pm, pc, q0, q1, q2, qA, qm, qc, rfl, rfl, two3 bwa r6a.1.out r3a.1.out (by omega) (by omega) (by omega) hta htb⟩)
      | (with_reducible exact ⟨_, _, p0, p1, p2, pA, pm, pc, q0, q1, q2, qA, qm, qc, rfl, rfl, two3' bwa r6a.1.out r3a.1.out (by omega) (by omega) (by omega) hta htb⟩)
      | (with_reducible exact ⟨_, _, p0, p1, p2, pA, pm, pc, q0, q1, q2, qA, qm, qc, rfl, rfl, two3 bwa r6a.1.out r4a.1.out (by omega) (by omega) (by omega) hta htb⟩)
      | (with_reducible exact ⟨_, _, p0, p1, p2, pA, pm, pc, q0, q1, q2, qA, qm, qc, rfl, rfl, two3' bwa r6a.1.out r4a.1.out (by omega) (by omega) (by omega) hta htb⟩)
      | (with_reducible exact ⟨_, _, p0, p1, p2, pA, pm, pc, q0, q1, q2, qA, qm, qc, rfl, rfl, two3 bwa r6a.1.out r5a.1.out (by omega) (by omega) (by omega) hta htb⟩)
      | (with_reducible exact ⟨_, _, p0, p1, p2, pA, pm, pc, q0, q1, q2, qA, qm, qc, rfl, rfl, two3' bwa r6a.1.out r5a.1.out (by omega) (by omega) (by omega) hta htb⟩)
  case rest =>
    obtain ⟨g7, g8, ka, na, sa, Aa, ma, ca, kb, nb, sb, Ab, mb', cb, rfl, rfl, two⟩ := hcut
    obtain ⟨fa, ha⟩ := two.ta.shape
    obtain ⟨fb, hb⟩ := two.tb.shape
    have oka := H.out.ok.walk_ok oa
    have okb := H.out.ok.walk_ok ob
    have da := H.out.ok.walk_done ta
    have db := H.out.ok.walk_done tb
    rw [ha] at oka da
    rw [hb] at okb db
    have hta := two.ta
    have htb := two.tb
    rw [ha] at hta
    rw [hb] at htb
    have HAA := Lib.hid ha
    have HBB := Lib.hid hb
    have OA := Lib.hid oka
    have OB := Lib.hid okb
    have TA := Lib.hid hta
    have TB := Lib.hid htb
    have TW := Lib.hid two
    have HBD := Lib.hid (show ∀ n t, stepU L (.mk ka na sa ma fa) (.mk kb nb sb mb' fb) = .bind n t → findB L n = none ∧ 0 ≤ n ∧ n < 1000 ∧ t.ok ∧ ¬ Reach L n t from fun n t hs => stepU_bind oka okb da db hs)
    have EW := Lib.hid (H.out.below two.low)
    have HON := Lib.hid (show ∀ e w', (match stepU L (.mk ka na sa ma fa) (.mk kb nb sb mb' fb) with
      | .fail => e = .returned (.tuple #[.int .i64 (-1), .slice none 0 0, .int .i64 80]) ∧ EnvP w' eb mb N L ∧ But mb w w'
      | .bind n t => e = .returned (.tuple #[.int .i64 n, .slice none 0 0, .int .i64 0]) ∧ EnvP w' eb mb (N + 1) (L ++ [(n, t)]) ∧ But mb w w'
      | .args m g h => ∃ v, e = .returned (.tuple #[.int .i64 (-1), v, .int .i64 0]) ∧ PRow w' w.heap.size v (pairsOf m g h) ∧ EnvP w' eb mb N L ∧ But mb w w') → OneP L ta tb w eb mb N e w' from fun e w' h => by unfold OneP; rw [ha, hb]; exact h)
    have BW := Lib.hid (BP.out.trans (two.low.mono BP.out.size))
    obtain ⟨x0, x1, x2, x3⟩ := box4 two.h7
    obtain ⟨y0, y1, y2, y3⟩ := box4 two.h8
    have hl7 := heap_lt two.h7
    have hl8 := heap_lt two.h8
    have e4 := cell_of_row _ eb 0 _ _ _ EW.out.blk
    obtain ⟨le, lm⟩ := EW.out.lt
    have xf : ∀ i, World.frozen? wc ⟨g7, i, none⟩ = false := fun i => by simp [World.frozen?, two.h7]
    have yf : ∀ i, World.frozen? wc ⟨g8, i, none⟩ = false := fun i => by simp [World.frozen?, two.h8]
    clear ha hb oka okb da db hta htb two CA CB KP
    cases hka : (ka == 1) with
    | true =>
      obtain rfl : ka = 1 := by simpa using hka
      cases hkb : (kb == 1) with
      | true =>
        obtain rfl : kb = 1 := by simpa using hkb
        rcases Int.lt_trichotomy na nb with hlt | heq | hgt
        · have hs : stepU L (.mk 1 na sa ma fa) (.mk 1 nb sb mb' fb) = .bind nb (.mk 1 na sa ma fa) := by rw [stepU_vv, if_neg (by omega), if_pos hlt]
          have hnb : (na == nb) = false := by simp; omega
          go_upto_region 6 with fail
          go_cut [] (fun wx => Two pb wx L tb ta g7 g8 1 nb sb Ab mb' cb 1 na sa Aa ma ca)
          case first =>
            have P1 := Lib.hid (box_put4 TW.out.h7 (.int .i64 1) (.int .i64 nb) (.string sb) (.slice Ab mb' cb) rfl)
            have P2 := Lib.hid (box_put4 ((P1.out.2.2.1 g8 fun e => TW.out.ne e.symm).trans TW.out.h8) (.int .i64 1) (.int .i64 na) (.string sa) (.slice Aa ma ca) rfl)
            have hne7 := TW.out.ne
            have hne8 : g8 ≠ g7 := fun e => hne7 e.symm
            go_wp2_with fail
            go_meet
            case rel => exact ⟨P2.out.2.2.2 _ _ TW.out.l8 (P1.out.2.2.2 _ _ TW.out.l7 TW.out.low), (P2.out.2.2.1 g7 TW.out.ne).trans P1.out.1, P2.out.1, TW.out.ne, TW.out.l7, TW.out.l8, TW.out.tb, TW.out.ta⟩
          case rest =>
            clear x0 x1 x2 x3 y0 y1 y2 y3 xf yf hl7 hl8 e4 le lm EW BW TW
            have TW := Lib.hid hcut
            have EW := Lib.hid (H.out.below hcut.low)
            have BW := Lib.hid (BP.out.trans (hcut.low.mono BP.out.size))
            obtain ⟨x0, x1, x2, x3⟩ := box4 hcut.h7
            obtain ⟨y0, y1, y2, y3⟩ := box4 hcut.h8
            have hl7 := heap_lt hcut.h7
            have hl8 := heap_lt hcut.h8
            have e4 := cell_of_row _ eb 0 _ _ _ EW.out.blk
            obtain ⟨le, lm⟩ := EW.out.lt
            clear hcut
            obtain ⟨b1, b2, b3, b4, b5⟩ := HBD.out _ _ hs
            obtain ⟨W2, hrun, hE, hB⟩ := (EW.out.below (Below.refl _ _).drew).store b1 b2 b3 b4 b5 ((TA.out.below TW.out.low).below (Below.refl _ _).drew) hN
            have HS := Lib.hid hs
            have HE := Lib.hid hE
            have HB := Lib.hid hB
            have X2 := hB.cells (EW.out.below (Below.refl _ _).drew).is TW.out.h7
            have Y2 := hB.cells (EW.out.below (Below.refl _ _).drew).is TW.out.h8
            have E2 := hB.cells (EW.out.below (Below.refl _ _).drew).is EW.out.blk
            obtain ⟨w0', w1', w2', w3'⟩ := box4 X2
            obtain ⟨z0', z1', z2', z3'⟩ := box4 Y2
            have K2 := Lib.hid (show W2.cell? ⟨eb, 0, none⟩ = some (.map (some mb)) ∧ W2.cell? ⟨g7, 1, none⟩ = some (.int .i64 nb) ∧ W2.cell? ⟨g8, 0, none⟩ = some (.int .i64 1) ∧ W2.cell? ⟨g8, 1, none⟩ = some (.int .i64 na) ∧ W2.cell? ⟨g8, 2, none⟩ = some (.string sa) ∧ W2.cell? ⟨g8, 3, none⟩ = some (.slice Aa ma ca) from ⟨cell_of_row _ eb 0 _ _ _ E2, w1', z0', z1', z2', z3'⟩)
            have hl7' := heap_lt X2
            clear hs hE hB b1 b2 b3 b4 b5 X2 Y2 E2 z0' z1' z2' z3'
            go_wp2_with fail
            go_region_held3 (fun w' => w'.cell? ⟨eb, 0, none⟩ = some (.map (some mb)) ∧ w'.cell? ⟨g7, 1, none⟩ = some (.int .i64 nb) ∧ w'.cell? ⟨g8, 0, none⟩ = some (.int .i64 1) ∧ w'.cell? ⟨g8, 1, none⟩ = some (.int .i64 na) ∧ w'.cell? ⟨g8, 2, none⟩ = some (.string sa) ∧ w'.cell? ⟨g8, 3, none⟩ = some (.slice Aa ma ca))
              (first | (with_reducible exact K2.out) | exact ⟨e4, x1, y0, y1, y2, y3⟩)
              (fail)
            go_wp2_with fail
            go_ret3
            refine HON.out _ _ ?_
            rw [HS.out]
            exact ⟨rfl, HE.out, (But.of BW.out).trans ((But.of (Below.refl _ _).drew).trans HB.out)⟩
        · have hs : stepU L (.mk 1 na sa ma fa) (.mk 1 nb sb mb' fb) = .args 0 fa fb := by rw [stepU_vv, if_pos heq]
          have HS := Lib.hid hs
          have hnb : (na == nb) = true := by simpa using heq
          clear hs heq
          go_wp2_with fail
          go_ret3
          refine HON.out _ _ ?_
          rw [HS.out]
          exact ⟨_, rfl, PRow.nil _ _, EW.out, But.of BW.out⟩
        · have hs : stepU L (.mk 1 na sa ma fa) (.mk 1 nb sb mb' fb) = .bind na (.mk 1 nb sb mb' fb) := by rw [stepU_vv, if_neg (by omega), if_neg (by omega)]
          have hnb : (na == nb) = false := by simp; omega
          have hng : ¬ na < nb := by omega
          obtain ⟨b1, b2, b3, b4, b5⟩ := HBD.out _ _ hs
          obtain ⟨W2, hrun, hE, hB⟩ := (EW.out.below (Below.refl _ _).drew).store b1 b2 b3 b4 b5 ((TB.out.below TW.out.low).below (Below.refl _ _).drew) hN
          have HS := Lib.hid hs
          have HE := Lib.hid hE
          have HB := Lib.hid hB
          have X2 := hB.cells (EW.out.below (Below.refl _ _).drew).is TW.out.h7
          have Y2 := hB.cells (EW.out.below (Below.refl _ _).drew).is TW.out.h8
          have E2 := hB.cells (EW.out.below (Below.refl _ _).drew).is EW.out.blk
          obtain ⟨w0', w1', w2', w3'⟩ := box4 X2
          obtain ⟨z0', z1', z2', z3'⟩ := box4 Y2
          have K2 := Lib.hid (show W2.cell? ⟨eb, 0, none⟩ = some (.map (some mb)) ∧ W2.cell? ⟨g7, 1, none⟩ = some (.int .i64 na) ∧ W2.cell? ⟨g8, 0, none⟩ = some (.int .i64 1) ∧ W2.cell? ⟨g8, 1, none⟩ = some (.int .i64 nb) ∧ W2.cell? ⟨g8, 2, none⟩ = some (.string sb) ∧ W2.cell? ⟨g8, 3, none⟩ = some (.slice Ab mb' cb) from ⟨cell_of_row _ eb 0 _ _ _ E2, w1', z0', z1', z2', z3'⟩)
          have hl7' := heap_lt X2
          clear hs hE hB b1 b2 b3 b4 b5 X2 Y2 E2 z0' z1' z2' z3'
          go_wp2_with fail
          go_region_held3 (fun w' => w'.cell? ⟨eb, 0, none⟩ = some (.map (some mb)) ∧ w'.cell? ⟨g7, 1, none⟩ = some (.int .i64 na) ∧ w'.cell? ⟨g8, 0, none⟩ = some (.int .i64 1) ∧ w'.cell? ⟨g8, 1, none⟩ = some (.int .i64 nb) ∧ w'.cell? ⟨g8, 2, none⟩ = some (.string sb) ∧ w'.cell? ⟨g8, 3, none⟩ = some (.slice Ab mb' cb))
            (first | (with_reducible exact K2.out) | exact ⟨e4, x1, y0, y1, y2, y3⟩)
            (fail)
          go_wp2_with fail
          go_ret3
          refine HON.out _ _ ?_
          rw [HS.out]
          exact ⟨rfl, HE.out, (But.of BW.out).trans ((But.of (Below.refl _ _).drew).trans HB.out)⟩
      | false =>
        have hkb1 : kb ≠ 1 := by simpa using hkb
        have hk1x := hkb1
        have CO := Lib.hid (occurs_any EW.out (TB.out.below TW.out.low) OB.out na)
        have HYES := Lib.hid (show Reach L na (.mk kb nb sb mb' fb) → stepU L (.mk 1 na sa ma fa) (.mk kb nb sb mb' fb) = .fail from fun h => stepU_v_yes rfl hkb1 h)
        have HNO := Lib.hid (show ¬ Reach L na (.mk kb nb sb mb' fb) → stepU L (.mk 1 na sa ma fa) (.mk kb nb sb mb' fb) = .bind na (.mk kb nb sb mb' fb) from fun h => stepU_v_no rfl hkb1 h)
        clear hk1x hkb1
        go_wp2_with fail
        refine CO.out.mono ?_
        rintro e w5 ⟨⟨b, rfl, hb⟩, h5⟩
        have TW := Lib.hid (TW.out.below h5)
        have EW := Lib.hid (EW.out.below h5)
        have BW := Lib.hid (BP.out.trans (TW.out.low.mono BP.out.size))
        have HB0 := Lib.hid hb
        clear x0 x1 x2 x3 y0 y1 y2 y3 hl7 hl8 e4 le lm h5 hb
        obtain ⟨x0, x1, x2, x3⟩ := box4 TW.out.h7
        obtain ⟨y0, y1, y2, y3⟩ := box4 TW.out.h8
        have hl7 := heap_lt TW.out.h7
        have hl8 := heap_lt TW.out.h8
        have e4 := cell_of_row _ eb 0 _ _ _ EW.out.blk
        obtain ⟨le, lm⟩ := EW.out.lt
        cases b with
        | true =>
          have HS := Lib.hid (HYES.out (HB0.out.mp (by simp)))
          go_wp2_with fail
          go_ret3
          refine HON.out _ _ ?_
          rw [HS.out]
          exact ⟨rfl, EW.out, But.of BW.out⟩
        | false =>
          have hnr : ¬ Reach L na (.mk kb nb sb mb' fb) := fun h => by have := HB0.out.mpr h; cases this
          have hs := HNO.out hnr
          clear hnr
          obtain ⟨b1, b2, b3, b4, b5⟩ := HBD.out _ _ hs
          obtain ⟨W2, hrun, hE, hB⟩ := (EW.out.below (Below.refl _ _).drew).store b1 b2 b3 b4 b5 ((TB.out.below TW.out.low).below (Below.refl _ _).drew) hN
          have HS := Lib.hid hs
          have HE := Lib.hid hE
          have HB := Lib.hid hB
          have X2 := hB.cells (EW.out.below (Below.refl _ _).drew).is TW.out.h7
          have Y2 := hB.cells (EW.out.below (Below.refl _ _).drew).is TW.out.h8
          have E2 := hB.cells (EW.out.below (Below.refl _ _).drew).is EW.out.blk
          obtain ⟨w0', w1', w2', w3'⟩ := box4 X2
          obtain ⟨z0', z1', z2', z3'⟩ := box4 Y2
          have K2 := Lib.hid (show W2.cell? ⟨eb, 0, none⟩ = some (.map (some mb)) ∧ W2.cell? ⟨g7, 1, none⟩ = some (.int .i64 na) ∧ W2.cell? ⟨g8, 0, none⟩ = some (.int .i64 kb) ∧ W2.cell? ⟨g8, 1, none⟩ = some (.int .i64 nb) ∧ W2.cell? ⟨g8, 2, none⟩ = some (.string sb) ∧ W2.cell? ⟨g8, 3, none⟩ = some (.slice Ab mb' cb) from ⟨cell_of_row _ eb 0 _ _ _ E2, w1', z0', z1', z2', z3'⟩)
          have hl7' := heap_lt X2
          clear hs hE hB b1 b2 b3 b4 b5 X2 Y2 E2 z0' z1' z2' z3'
          go_wp2_with fail
          go_region_held3 (fun w' => w'.cell? ⟨eb, 0, none⟩ = some (.map (some mb)) ∧ w'.cell? ⟨g7, 1, none⟩ = some (.int .i64 na) ∧ w'.cell? ⟨g8, 0, none⟩ = some (.int .i64 kb) ∧ w'.cell? ⟨g8, 1, none⟩ = some (.int .i64 nb) ∧ w'.cell? ⟨g8, 2, none⟩ = some (.string sb) ∧ w'.cell? ⟨g8, 3, none⟩ = some (.slice Ab mb' cb))
            (first | (with_reducible exact K2.out) | exact ⟨e4, x1, y0, y1, y2, y3⟩)
            (fail)
          go_wp2_with fail
          go_ret3
          refine HON.out _ _ ?_
          rw [HS.out]
          exact ⟨rfl, HE.out, (But.of BW.out).trans ((But.of (Below.refl _ _).drew).trans HB.out)⟩
    | false =>
      have hka1 : ka ≠ 1 := by simpa using hka
      cases hkb : (kb == 1) with
      | true =>
        obtain rfl : kb = 1 := by simpa using hkb
        have hk1x := hka1
        have HYES0 := Lib.hid (show Reach L nb (.mk ka na sa ma fa) → stepU L (.mk ka na sa ma fa) (.mk 1 nb sb mb' fb) = .fail from fun h => stepU_w_yes hka1 rfl h)
        have HNO0 := Lib.hid (show ¬ Reach L nb (.mk ka na sa ma fa) → stepU L (.mk ka na sa ma fa) (.mk 1 nb sb mb' fb) = .bind nb (.mk ka na sa ma fa) from fun h => stepU_w_no hka1 rfl h)
        clear hka1
        go_upto_region 10 with fail
        go_cut [] (fun wx => Two pb wx L tb ta g7 g8 1 nb sb Ab mb' cb ka na sa Aa ma ca)
        case first =>
          have P1 := Lib.hid (box_put4 TW.out.h7 (.int .i64 1) (.int .i64 nb) (.string sb) (.slice Ab mb' cb) rfl)
          have P2 := Lib.hid (box_put4 ((P1.out.2.2.1 g8 fun e => TW.out.ne e.symm).trans TW.out.h8) (.int .i64 ka) (.int .i64 na) (.string sa) (.slice Aa ma ca) rfl)
          have hne7 := TW.out.ne
          have hne8 : g8 ≠ g7 := fun e => hne7 e.symm
          go_wp2_with fail
          go_meet
          case rel => exact ⟨P2.out.2.2.2 _ _ TW.out.l8 (P1.out.2.2.2 _ _ TW.out.l7 TW.out.low), (P2.out.2.2.1 g7 TW.out.ne).trans P1.out.1, P2.out.1, TW.out.ne, TW.out.l7, TW.out.l8, TW.out.tb, TW.out.ta⟩
        case rest =>
          clear x0 x1 x2 x3 y0 y1 y2 y3 xf yf hl7 hl8 e4 le lm EW BW TW
          have TW := Lib.hid hcut
          have EW := Lib.hid (H.out.below hcut.low)
          have BW := Lib.hid (BP.out.trans (hcut.low.mono BP.out.size))
          obtain ⟨x0, x1, x2, x3⟩ := box4 hcut.h7
          obtain ⟨y0, y1, y2, y3⟩ := box4 hcut.h8
          have hl7 := heap_lt hcut.h7
          have hl8 := heap_lt hcut.h8
          have e4 := cell_of_row _ eb 0 _ _ _ EW.out.blk
          obtain ⟨le, lm⟩ := EW.out.lt
          clear hcut
          have CO := Lib.hid (occurs_any EW.out (TA.out.below TW.out.low) OA.out nb)
          have HYES := Lib.hid (show Reach L nb (.mk ka na sa ma fa) → stepU L (.mk ka na sa ma fa) (.mk 1 nb sb mb' fb) = .fail from fun h => HYES0.out h)
          have HNO := Lib.hid (show ¬ Reach L nb (.mk ka na sa ma fa) → stepU L (.mk ka na sa ma fa) (.mk 1 nb sb mb' fb) = .bind nb (.mk ka na sa ma fa) from fun h => HNO0.out h)
          clear hk1x
          go_wp2_with fail
          refine CO.out.mono ?_
          rintro e w5 ⟨⟨b, rfl, hb⟩, h5⟩
          have TW := Lib.hid (TW.out.below h5)
          have EW := Lib.hid (EW.out.below h5)
          have BW := Lib.hid (BP.out.trans (TW.out.low.mono BP.out.size))
          have HB0 := Lib.hid hb
          clear x0 x1 x2 x3 y0 y1 y2 y3 hl7 hl8 e4 le lm h5 hb
          obtain ⟨x0, x1, x2, x3⟩ := box4 TW.out.h7
          obtain ⟨y0, y1, y2, y3⟩ := box4 TW.out.h8
          have hl7 := heap_lt TW.out.h7
          have hl8 := heap_lt TW.out.h8
          have e4 := cell_of_row _ eb 0 _ _ _ EW.out.blk
          obtain ⟨le, lm⟩ := EW.out.lt
          cases b with
          | true =>
            have HS := Lib.hid (HYES.out (HB0.out.mp (by simp)))
            go_wp2_with fail
            go_ret3
            refine HON.out _ _ ?_
            rw [HS.out]
            exact ⟨rfl, EW.out, But.of BW.out⟩
          | false =>
            have hnr : ¬ Reach L nb (.mk ka na sa ma fa) := fun h => by have := HB0.out.mpr h; cases this
            have hs := HNO.out hnr
            clear hnr
            obtain ⟨b1, b2, b3, b4, b5⟩ := HBD.out _ _ hs
            obtain ⟨W2, hrun, hE, hB⟩ := (EW.out.below (Below.refl _ _).drew).store b1 b2 b3 b4 b5 ((TA.out.below TW.out.low).below (Below.refl _ _).drew) hN
            have HS := Lib.hid hs
            have HE := Lib.hid hE
            have HB := Lib.hid hB
            have X2 := hB.cells (EW.out.below (Below.refl _ _).drew).is TW.out.h7
            have Y2 := hB.cells (EW.out.below (Below.refl _ _).drew).is TW.out.h8
            have E2 := hB.cells (EW.out.below (Below.refl _ _).drew).is EW.out.blk
            obtain ⟨w0', w1', w2', w3'⟩ := box4 X2
            obtain ⟨z0', z1', z2', z3'⟩ := box4 Y2
            have K2 := Lib.hid (show W2.cell? ⟨eb, 0, none⟩ = some (.map (some mb)) ∧ W2.cell? ⟨g7, 1, none⟩ = some (.int .i64 nb) ∧ W2.cell? ⟨g8, 0, none⟩ = some (.int .i64 ka) ∧ W2.cell? ⟨g8, 1, none⟩ = some (.int .i64 na) ∧ W2.cell? ⟨g8, 2, none⟩ = some (.string sa) ∧ W2.cell? ⟨g8, 3, none⟩ = some (.slice Aa ma ca) from ⟨cell_of_row _ eb 0 _ _ _ E2, w1', z0', z1', z2', z3'⟩)
            have hl7' := heap_lt X2
            clear hs hE hB b1 b2 b3 b4 b5 X2 Y2 E2 z0' z1' z2' z3'
            go_wp2_with fail
            go_region_held3 (fun w' => w'.cell? ⟨eb, 0, none⟩ = some (.map (some mb)) ∧ w'.cell? ⟨g7, 1, none⟩ = some (.int .i64 nb) ∧ w'.cell? ⟨g8, 0, none⟩ = some (.int .i64 ka) ∧ w'.cell? ⟨g8, 1, none⟩ = some (.int .i64 na) ∧ w'.cell? ⟨g8, 2, none⟩ = some (.string sa) ∧ w'.cell? ⟨g8, 3, none⟩ = some (.slice Aa ma ca))
              (first | (with_reducible exact K2.out) | exact ⟨e4, x1, y0, y1, y2, y3⟩)
              (fail)
            go_wp2_with fail
            go_ret3
            refine HON.out _ _ ?_
            rw [HS.out]
            exact ⟨rfl, HE.out, (But.of BW.out).trans ((But.of (Below.refl _ _).drew).trans HB.out)⟩
      | false =>
        have hkb1 : kb ≠ 1 := by simpa using hkb
        have HFAIL := Lib.hid (show (ka ≠ kb ∨ (ka = 2 ∧ na ≠ nb) ∨ sa ≠ sb ∨ ma ≠ mb') → stepU L (.mk ka na sa ma fa) (.mk kb nb sb mb' fb) = .fail from fun h => stepU_no hka1 hkb1 h)
        have HPASS := Lib.hid (show ka = kb → (ka = 2 → na = nb) → sa = sb → ma = mb' → stepU L (.mk ka na sa ma fa) (.mk kb nb sb mb' fb) = .args ma fa fb from fun h1 h2 h3 h4 => stepU_yes hka1 hkb1 h1 h2 h3 h4)
        clear hka1 hkb1
        go_upto_region 16 with fail
        go_cut [102] (fun s wx => Two pb wx L ta tb g7 g8 ka na sa Aa ma ca kb nb sb Ab mb' cb ∧ ∃ bb : Bool, s = .bool bb ∧ FailB ka na sa ma kb nb sb mb' bb)
        case first =>
          by_cases hkk : ka = kb
          · subst hkk
            rcases OA.out.1.1 with h | h | h | h
            · exact absurd h.1 (by simpa using hka)
            · obtain ⟨rfl, _, rfl, rfl⟩ := h
              obtain ⟨rfl, rfl⟩ : sb = ⟨#[]⟩ ∧ mb' = 0 := by
                rcases OB.out.1.1 with h | h | h | h
                · exact absurd h.1 (by decide)
                · exact ⟨h.2.2.1, h.2.2.2⟩
                · exact absurd h.1 (by decide)
                · exact absurd h.1 (by decide)
              by_cases hnn : na = nb
              · subst hnn
                go_wp2_with fail
                go_meet
                case rel => exact ⟨TW.out, false, rfl, (fun h => by cases h), fun _ => ⟨rfl, fun _ => rfl, rfl, rfl⟩⟩
              · have hnb : (na != nb) = true := by simpa using hnn
                go_wp2_with fail
                go_meet
                case rel => exact ⟨TW.out, true, rfl, fun _ => .inr (.inl ⟨rfl, hnn⟩), (fun h => by cases h)⟩
            · obtain ⟨rfl, _, _, rfl⟩ := h
              obtain rfl : mb' = 0 := by
                rcases OB.out.1.1 with h | h | h | h
                · exact absurd h.1 (by decide)
                · exact absurd h.1 (by decide)
                · exact h.2.2.2
                · exact absurd h.1 (by decide)
              by_cases hss : sa = sb
              · subst hss
                go_wp2_with fail
                go_meet
                case rel => exact ⟨TW.out, false, rfl, (fun h => by cases h), fun _ => ⟨rfl, (fun h => by cases h), rfl, rfl⟩⟩
              · have hsl : ¬ sa.toList = sb.toList := fun h => hss (bytes_eq h)
                have HSS := Lib.hid hss
                clear hss
                go_wp2_with fail
                go_meet
                case rel => exact ⟨TW.out, true, rfl, fun _ => .inr (.inr (.inl HSS.out)), (fun h => by cases h)⟩
            · obtain ⟨rfl, _, _, _⟩ := h
              by_cases hss : sa = sb
              · subst hss
                by_cases hmm : ma = mb'
                · subst hmm
                  go_wp2_with fail
                  go_meet
                  case rel => exact ⟨TW.out, false, rfl, (fun h => by cases h), fun _ => ⟨rfl, (fun h => by cases h), rfl, rfl⟩⟩
                · have HMM := Lib.hid hmm
                  have hmi : ((ma : Int) != (mb' : Int)) = true := by simp; omega
                  clear hmm
                  go_wp2_with fail
                  go_meet
                  case rel => exact ⟨TW.out, true, rfl, fun _ => .inr (.inr (.inr HMM.out)), (fun h => by cases h)⟩
              · have hsl : ¬ sa.toList = sb.toList := fun h => hss (bytes_eq h)
                have HSS := Lib.hid hss
                clear hss
                go_wp2_with fail
                go_meet
                case rel => exact ⟨TW.out, true, rfl, fun _ => .inr (.inr (.inl HSS.out)), (fun h => by cases h)⟩
          · have hkn : (ka != kb) = true := by simpa using hkk
            have HKK := Lib.hid hkk
            clear hkk
            go_wp2_with fail
            go_meet
            case rel => exact ⟨TW.out, true, rfl, fun _ => .inl HKK.out, (fun h => by cases h)⟩
        case rest =>
          clear x0 x1 x2 x3 y0 y1 y2 y3 xf yf hl7 hl8 e4 le lm EW BW TW
          obtain ⟨tw, bb, rfl, hfb⟩ := hcut
          have TW := Lib.hid tw
          have EW := Lib.hid (H.out.below tw.low)
          have BW := Lib.hid (BP.out.trans (tw.low.mono BP.out.size))
          obtain ⟨x0, x1, x2, x3⟩ := box4 tw.h7
          obtain ⟨y0, y1, y2, y3⟩ := box4 tw.h8
          have hl7 := heap_lt tw.h7
          have hl8 := heap_lt tw.h8
          clear tw
          cases bb with
          | true =>
            have HS := Lib.hid (HFAIL.out (hfb.1 rfl))
            clear hfb
            go_wp2_with fail
            go_ret3
            refine HON.out _ _ ?_
            rw [HS.out]
            exact ⟨rfl, EW.out, But.of BW.out⟩
          | false =>
            obtain ⟨rfl, h2, rfl, rfl⟩ := hfb.2 rfl
            have HS := Lib.hid (HPASS.out rfl h2 rfl rfl)
            have hmaf := OA.out.few
            have hsp : w.heap.size ≤ pb.heap.size := BP.out.size
            clear hfb h2 HFAIL HPASS HBD
            obtain ⟨item, hi1, hi2, hi3, hi4⟩ := elPair.hi
            go_wp2_with fail
            go_loopw [9, 106] (fun v s wr => ∃ i : Nat, s = .int .i64 (i : Int) ∧ i ≤ ma ∧ Two pb wr L ta tb g7 g8 ka na sa Aa ma ca ka nb sa Ab ma cb ∧ PRow wr pb.heap.size v (pairsOf i fa fb)) (fun _ s _ => ma - (intOf s).toNat)
            case atStart => exact ⟨0, rfl, Nat.zero_le _, TW.out, PRow.nil _ _⟩
            case round =>
              clear x0 x1 x2 x3 y0 y1 y2 y3 hl7 hl8 TW EW BW
              obtain ⟨i, rfl, hi, tw, pr⟩ := hrel
              obtain ⟨xs, hx, hp⟩ := pr
              rw [pairsOf_length] at hx
              obtain ⟨PA, pc, rfl, _, _, _, _⟩ := own_open hx
              have TW := Lib.hid tw
              have HX := Lib.hid hx
              have HP := Lib.hid hp
              have EW := Lib.hid (H.out.below tw.low)
              have BW := Lib.hid (BP.out.trans (tw.low.mono BP.out.size))
              have hsz := tw.low.size
              obtain ⟨x0, x1, x2, x3⟩ := box4 tw.h7
              obtain ⟨y0, y1, y2, y3⟩ := box4 tw.h8
              have hl7 := heap_lt tw.h7
              have hl8 := heap_lt tw.h8
              clear tw hx hp
              by_cases him : i < ma
              · have him' : (i : Int) < (ma : Int) := by omega
                have TI0 := TA.out
                have TJ0 := TB.out
                obtain ⟨_, _, _, _, _, _, hargs⟩ := TA.out.args
                obtain ⟨ga, u0, u1, u2, U0, um, uc, rfl, _, hga, d0, d1, d2, d3, hti⟩ := hargs i him
                obtain ⟨_, _, _, _, _, _, hbrgs⟩ := TB.out.args
                obtain ⟨gb, v0, v1, v2, V0, vm, vc, rfl, _, hgb, e0, e1, e2, e3, htj⟩ := hbrgs i him
                have hgal := Nat.lt_of_lt_of_le hga hsz
                have hgbl := Nat.lt_of_lt_of_le hgb hsz
                have d0 := (TW.out.low.cell (p := ⟨ga, i * 4, none⟩) hga).trans d0
                have d1 := (TW.out.low.cell (p := ⟨ga, i * 4 + 1, none⟩) hga).trans d1
                have d2 := (TW.out.low.cell (p := ⟨ga, i * 4 + 2, none⟩) hga).trans d2
                have d3 := (TW.out.low.cell (p := ⟨ga, i * 4 + 3, none⟩) hga).trans d3
                have e0 := (TW.out.low.cell (p := ⟨gb, i * 4, none⟩) hgb).trans e0
                have e1 := (TW.out.low.cell (p := ⟨gb, i * 4 + 1, none⟩) hgb).trans e1
                have e2 := (TW.out.low.cell (p := ⟨gb, i * 4 + 2, none⟩) hgb).trans e2
                have e3 := (TW.out.low.cell (p := ⟨gb, i * 4 + 3, none⟩) hgb).trans e3
                have TI := Lib.hid hti
                have TJ := Lib.hid htj
                obtain ⟨csa, fra, hba⟩ := TI0.blk (by omega)
                obtain ⟨csb, frb, hbb⟩ := TJ0.blk (by omega)
                have hba' := (TW.out.low.block ga hga).trans hba
                have hbb' := (TW.out.low.block gb hgb).trans hbb
                have KPS := Lib.hid (show ∀ w', FarT wr w' → w'.cell? ⟨g7, 3, none⟩ = some (.slice (some ⟨ga, 0, none⟩) ma ca) ∧ w'.cell? ⟨g8, 3, none⟩ = some (.slice (some ⟨gb, 0, none⟩) ma cb) ∧ w'.cell? ⟨ga, i * 4, none⟩ = some (.int .i64 u0) ∧ w'.cell? ⟨ga, i * 4 + 1, none⟩ = some (.int .i64 u1) ∧ w'.cell? ⟨ga, i * 4 + 2, none⟩ = some (.string u2) ∧ w'.cell? ⟨ga, i * 4 + 3, none⟩ = some (.slice U0 um uc) ∧ w'.cell? ⟨gb, i * 4, none⟩ = some (.int .i64 v0) ∧ w'.cell? ⟨gb, i * 4 + 1, none⟩ = some (.int .i64 v1) ∧ w'.cell? ⟨gb, i * 4 + 2, none⟩ = some (.string v2) ∧ w'.cell? ⟨gb, i * 4 + 3, none⟩ = some (.slice V0 vm vc) from fun w' hw => ⟨(hw.cell TW.out.h7).trans x3, (hw.cell TW.out.h8).trans y3, (hw.cell hba').trans d0, (hw.cell hba').trans d1, (hw.cell hba').trans d2, (hw.cell hba').trans d3, (hw.cell hbb').trans e0, (hw.cell hbb').trans e1, (hw.cell hbb').trans e2, (hw.cell hbb').trans e3⟩)
                clear hti htj hargs hbrgs hba hbb hba' hbb' TI0 TJ0
                go_wp2_with fail
                go_region_held3 (fun w' => w'.cell? ⟨g7, 3, none⟩ = some (.slice (some ⟨ga, 0, none⟩) ma ca) ∧ w'.cell? ⟨g8, 3, none⟩ = some (.slice (some ⟨gb, 0, none⟩) ma cb) ∧ w'.cell? ⟨ga, i * 4, none⟩ = some (.int .i64 u0) ∧ w'.cell? ⟨ga, i * 4 + 1, none⟩ = some (.int .i64 u1) ∧ w'.cell? ⟨ga, i * 4 + 2, none⟩ = some (.string u2) ∧ w'.cell? ⟨ga, i * 4 + 3, none⟩ = some (.slice U0 um uc) ∧ w'.cell? ⟨gb, i * 4, none⟩ = some (.int .i64 v0) ∧ w'.cell? ⟨gb, i * 4 + 1, none⟩ = some (.int .i64 v1) ∧ w'.cell? ⟨gb, i * 4 + 2, none⟩ = some (.string v2) ∧ w'.cell? ⟨gb, i * 4 + 3, none⟩ = some (.slice V0 vm vc))
                  (first | (with_reducible exact KPS.out _ (FarT.below (Below.refl _ _).drew)) | (with_reducible exact KPS.out _ (FarT.below (bel_alloc (Below.refl _ _) _).drew)) | (with_reducible exact KPS.out _ (FarT.below (bel_alloc (Below.refl _ _).drew _))) | (with_reducible exact KPS.out _ bw10))
                  ((refine step_append_lies _ rfl _ _ _ rfl pb.heap.size 69 item (.agg #[.int .i64 0, .int .i64 0, .string ⟨#[]⟩, .slice none 0 0, .int .i64 0, .int .i64 0, .string ⟨#[]⟩, .slice none 0 0]) 8 112 Try.underlying70 hi1 hi2 hi3 hi4 rfl (by omega) _ i xs rfl (own_below HX.out (by first | exact ((Below.refl _ _).drew).alloc (Nat.le_refl _) _ | exact ((Below.refl _ _).alloc (Nat.le_refl _) _).drew)) ⟨wr.heap.size, 0, none⟩ 1 1 [.int .i64 u0, .int .i64 u1, .string u2, .slice U0 um uc, .int .i64 v0, .int .i64 v1, .string v2, .slice V0 vm vc] rfl rfl (World.news_of_block (heap_alloc_new _ _)) (by intro u hu; simp only [List.mem_cons, List.not_mem_nil, or_false] at hu; rcases hu with rfl | rfl | rfl | rfl | rfl | rfl | rfl | rfl <;> rfl) (by omega) (by unfold maxLen; omega) (by omega) (by simp; omega) _ rfl ?_; intro g1 cap1 w10 hown1 hg1 hat1 hlt1; have ⟨bw10, lw10, pr10⟩ := after_push TW.out.low HX.out HP.out (by first | exact ((Below.refl _ _).drew).alloc (Nat.le_refl _) _ | exact ((Below.refl _ _).alloc (Nat.le_refl _) _).drew) TI.out TJ.out hown1 hg1; clear hown1 hg1 hat1 hlt1))
                have L10 := Lib.hid lw10
                have P10 := Lib.hid pr10
                have T10 := Lib.hid (show Two pb w10 L ta tb g7 g8 ka na sa _ ma ca ka nb sa _ ma cb from ⟨lw10, (bw10 _ _ _ TW.out.h7).trans TW.out.h7, (bw10 _ _ _ TW.out.h8).trans TW.out.h8, TW.out.ne, TW.out.l7, TW.out.l8, TW.out.ta, TW.out.tb⟩)
                clear lw10 pr10 bw10
                go_wp2_with fail
                go_roundw
                case rel => exact ⟨i + 1, by go_num, him, T10.out, P10.out⟩
                case measure => simp [intOf]; omega
              · obtain rfl : i = ma := by omega
                go_wp2_with fail
                go_ret3
                refine HON.out _ _ ?_
                rw [HS.out]
                exact ⟨_, rfl, PRow.base ⟨xs, by rw [pairsOf_length]; exact HX.out, HP.out⟩ hsp, EW.out, But.of BW.out⟩
end Go.Proofs.Ytjjkigphfijnbaa
