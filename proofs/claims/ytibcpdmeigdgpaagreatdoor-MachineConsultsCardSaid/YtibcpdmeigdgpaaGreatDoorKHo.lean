/- The program's parser: a list. The program's parser: alone. -/
import Derived.Test.YtibcpdmeigdgpaaGreatDoorKHn
namespace Go.Proofs.YtibcpdmeigdgpaaGreatDoor
open Go.RowKit Go.Shelf
attribute [local go_sem] Oper.semAt_some
structure LsI (c : Rdc) (w W : World) (j n g rb : Nat) (cs : Array Value) (ts : Nat → T) (r : T) (a0 a1 : Int) (a2 : ByteArray) (a3 : Option Addr) (a4 a5 : Nat) (ns : List ByteArray) (fg : Nat × Nat) : Prop where
 row : W.heap[g]? = some (.cells cs 39 fg)
 tp : Cells4 W (fun b => w.heap.size + 1 ≤ b ∧ b ≠ rb) cs n ts
 hg : w.heap.size + 1 ≤ g ∧ g ≠ rb
 hrb : w.heap.size + 1 ≤ rb
 box : W.heap[rb]? = some (.cells #[.int .i64 a0, .int .i64 a1, .string a2, .slice a3 a4 a5] 39 (0, 0))
 ht : TP W (fun b => w.heap.size + 1 ≤ b ∧ b ≠ rb) r (.agg #[.int .i64 a0, .int .i64 a1, .string a2, .slice a3 a4 a5])
 res : W.heap[w.heap.size]? = some (.cells #[.int .i64 0, .int .i64 0, .string ⟨#[]⟩, .slice none 0 0] 39 (0, 0))
 rd : Pd W c j ns
 fr : Frp c w W
 gd : r.good ∧ ∀ k, k < n → (ts k).good
theorem LsI.stand {c : Rdc} {w W W1 : World} {j j1 n g rb : Nat} {cs : Array Value} {ts : Nat → T} {r : T} {a0 a1 : Int} {a2 : ByteArray} {a3 : Option Addr} {a4 a5 : Nat} {ns ns1 : List ByteArray} {fg : Nat × Nat} (h : LsI c w W j n g rb cs ts r a0 a1 a2 a3 a4 a5 ns fg)
 (hf : Frp c W W1) (hr : Pd W1 c j1 ns1) : LsI c w W1 j1 n g rb cs ts r a0 a1 a2 a3 a4 a5 ns1 fg :=
 ⟨hf.boxp h.rd h.row (by decide) (by decide), fun k hk => by
  obtain ⟨v0, v1, v2, v3, h0, h1, h2, h3, ht⟩ := h.tp k hk
  exact ⟨v0, v1, v2, v3, h0, h1, h2, h3, ht.frp hf h.rd⟩, h.hg, h.hrb, hf.boxp h.rd h.box (by decide) (by decide), h.ht.frp hf h.rd, hf.boxp h.rd h.res (by decide) (by decide), hr, h.fr.trans hf, h.gd⟩
theorem LsI.below {c : Rdc} {w W W1 : World} {j n g rb : Nat} {cs : Array Value} {ts : Nat → T} {r : T} {a0 a1 : Int} {a2 : ByteArray} {a3 : Option Addr} {a4 a5 : Nat} {ns : List ByteArray} {fg : Nat × Nat} (h : LsI c w W j n g rb cs ts r a0 a1 a2 a3 a4 a5 ns fg)
 (hb : Below W.heap.size W W1) : LsI c w W1 j n g rb cs ts r a0 a1 a2 a3 a4 a5 ns fg := h.stand (Frp.of_below hb h.rd.base) (h.rd.below hb)
theorem LsI.put {c : Rdc} {w W W1 : World} {j n g rb : Nat} {cs : Array Value} {ts : Nat → T} {r r' : T} {a0 a1 b0 b1 : Int} {a2 b2 : ByteArray} {a3 b3 : Option Addr} {a4 a5 b4 b5 : Nat} {ns : List ByteArray} {fg : Nat × Nat} (h : LsI c w W j n g rb cs ts r a0 a1 a2 a3 a4 a5 ns fg)
 (hB : c.B ≤ w.heap.size) (hb : Below W.heap.size W W1) (ht : TP W1 (fun b => (w.heap.size + 1 ≤ b ∧ b ≠ rb) ∨ W.heap.size ≤ b) r' (.agg #[.int .i64 b0, .int .i64 b1, .string b2, .slice b3 b4 b5])) (hgd : r'.good) :
 LsI c w ((((W1.setCell ⟨rb, 0, none⟩ (.int .i64 b0)).setCell ⟨rb, 1, none⟩ (.int .i64 b1)).setCell ⟨rb, 2, none⟩ (.string b2)).setCell ⟨rb, 3, none⟩ (.slice b3 b4 b5)) j n g rb cs ts r' b0 b1 b2 b3 b4 b5 ns fg := by
 have h1 := h.below hb
 have hgr := heap_lt h.box
 have hs := hb.size
 obtain ⟨P0, P1, P2, P3⟩ := box_put4 h1.box (.int .i64 b0) (.int .i64 b1) (.string b2) (.slice b3 b4 b5) rfl
 have hrb := h.hrb
 have hsz := h.fr.size
 refine ⟨(P2 g h.hg.2).trans h1.row, fun k hk => ?_, h.hg, h.hrb, P0, (tp_put h1.box _ _ _ _ ht fun b hb' => ?_).more fun b hb' => ?_, (P2 _ (by omega)).trans h1.res, h1.rd.putT h1.box _ _ _ _, h1.fr.put (by omega) hB h1.box _ _ _ _, hgd, h.gd.2⟩
 ·obtain ⟨v0, v1, v2, v3, h0, h1', h2, h3, ht'⟩ := h1.tp k hk
  exact ⟨v0, v1, v2, v3, h0, h1', h2, h3, tp_put h1.box _ _ _ _ ht' fun b hb' => hb'.2⟩
 ·rcases hb' with hb' | hb'
  ·exact hb'.2
  ·omega
 ·rcases hb' with hb' | hb'
  ·exact hb'
  ·exact ⟨by omega, by omega⟩
theorem key_grown {W W' : World} {row : Option Nat} (hg : W.grownBy W' row) (hr : ∀ q, row = some q → ∃ o : Obj, W.heap[q]? = some o ∧ o.isCells = false) (b : Nat) (cs : Array Value) (t : TypeId) (m : Nat × Nat) (hb : W.heap[b]? = some (.cells cs t m)) : W'.heap[b]? = some (.cells cs t m) := by
 refine (hg.block b (heap_lt hb) fun e => ?_).trans hb
 obtain ⟨o, ho, hc⟩ := hr b e.symm
 rw [hb] at ho
 injection ho with ho
 subst ho
 cases hc
theorem Pd.key {c : Rdc} {W W' : World} {j : Nat} {ns : List ByteArray} (h : Pd W c j ns) (key : ∀ (b : Nat) (cs : Array Value) (t : TypeId) (m : Nat × Nat), W.heap[b]? = some (.cells cs t m) → W'.heap[b]? = some (.cells cs t m)) : Pd W' c j ns := by
 obtain ⟨ht, hf, lv, nv, nn, hrw⟩ := h
 refine ⟨ht.keep fun b cs hb => (key b cs _ _ hb).trans hb.symm, hf, lv, nv, nn, key _ _ _ _ hrw.blk, hrw.lok, own_keep hrw.own fun q hq => ?_, hrw.up, hrw.few⟩
 rcases hrw.own.2 with ⟨hv, _⟩ | ⟨g', cap, cur, hv, _, hh, _⟩
 ·rw [hv] at hq; simp [Value.ownBlock] at hq
 ·rw [hv] at hq
  simp [Value.ownBlock] at hq
  subst hq
  exact (key _ _ _ _ hh).trans hh.symm
theorem TP.key {W W' : World} {S : Nat → Prop} {t : T} {v : Value} (h : TP W S t v) (key : ∀ (b : Nat) (cs : Array Value) (t : TypeId) (m : Nat × Nat), W.heap[b]? = some (.cells cs t m) → W'.heap[b]? = some (.cells cs t m)) : TP W' S t v := h.keep fun b cs f hS hb => ⟨key b cs _ f hb, hS⟩
theorem Frp.key {c : Rdc} {w W W' : World} {row : Option Nat} (h : Frp c w W) (hB : c.B ≤ w.heap.size) (hg : W.grownBy W' row) (hr : ∀ q, row = some q → w.heap.size ≤ q ∧ ∃ o : Obj, W.heap[q]? = some o ∧ o.isCells = false) : Frp c w W' :=
 ⟨h.low.grown hg (Nat.le_trans hB h.size) fun k e => Nat.le_trans hB (hr k e).1, fun b cs t m hb h1 h2 => key_grown hg (fun q e => (hr q e).2) b cs t m (h.keep b cs t m hb h1 h2)⟩
theorem LsI.grown {c : Rdc} {w W W' : World} {j n g rb : Nat} {cs : Array Value} {ts : Nat → T} {r : T} {a0 a1 : Int} {a2 : ByteArray} {a3 : Option Addr} {a4 a5 : Nat} {ns : List ByteArray} {fg : Nat × Nat} {row : Option Nat} (h : LsI c w W j n g rb cs ts r a0 a1 a2 a3 a4 a5 ns fg)
 (hB : c.B ≤ w.heap.size) (hg : W.grownBy W' row) (hr : ∀ q, row = some q → w.heap.size ≤ q ∧ ∃ o : Obj, W.heap[q]? = some o ∧ o.isCells = false) : LsI c w W' j n g rb cs ts r a0 a1 a2 a3 a4 a5 ns fg := by
 have key := key_grown hg fun q e => (hr q e).2
 refine ⟨key _ _ _ _ h.row, fun k hk => ?_, h.hg, h.hrb, key _ _ _ _ h.box, h.ht.key key, key _ _ _ _ h.res, h.rd.key key, h.fr.key hB hg hr, h.gd⟩
 obtain ⟨v0, v1, v2, v3, h0, h1, h2, h3, ht⟩ := h.tp k hk
 exact ⟨v0, v1, v2, v3, h0, h1, h2, h3, ht.key key⟩
theorem ret_boxq {c : Rdc} {w wk : World} {i0 i j : Nat} {ns' : List ByteArray} {res : PR T} {t : T} {g : Nat} {m : Nat × Nat} {u0 u1 u2 u3 x0 x1 x2 x3 : Value} (H : Pd wk c j ns') (F : Frp c w wk) (hB : c.B ≤ w.heap.size)
 (hbx : wk.heap[g]? = some (.cells #[u0, u1, u2, u3] 39 m)) (hg : w.heap.size ≤ g) (ht : TP wk (fun b => w.heap.size ≤ b ∧ b ≠ g) t (.agg #[x0, x1, x2, x3])) (hj : i ≤ j) (hgd : t.good) (hnd : i0 + t.nodes ≤ j) (hres : res = .ok (t, j, ns')) :
 PQ c w i res (RelT w i0) (.returned (.agg #[x0, x1, x2, x3])) ((((wk.setCell ⟨g, 0, none⟩ x0).setCell ⟨g, 1, none⟩ x1).setCell ⟨g, 2, none⟩ x2).setCell ⟨g, 3, none⟩ x3) := by
 subst hres
 exact ⟨F.put hg hB hbx _ _ _ _, _, rfl, H.putT hbx _ _ _ _, hj, (tp_put hbx _ _ _ _ ht fun _ hb => hb.2).more fun _ hb => hb.1, hgd, hnd⟩
theorem PQ.put {c : Rdc} {w W : World} {i i0 D : Nat} {res : PR T} {e : Ending} (h : PQ c w i res (RelT w i0) e W) (hB : c.B ≤ w.heap.size) {o o' : Obj} (hD : w.heap.size ≤ D) (ho : W.heap[D]? = some o) (hc : o.isCells = false) : PQ c w i res (RelT w i0) e (W.putObj D o') := by
 have hg := grownBy_putObj' W D o'
 have hr : ∀ q, some D = some q → w.heap.size ≤ q ∧ ∃ o : Obj, W.heap[q]? = some o ∧ o.isCells = false := fun q e => by cases e; exact ⟨hD, o, ho, hc⟩
 have key := key_grown hg fun q e => (hr q e).2
 obtain ⟨f, h⟩ := h
 refine ⟨f.key hB hg hr, ?_⟩
 cases res with
 | error pk => exact h
 | ok y =>
  obtain ⟨v, h1, h2, h3, h4, h5⟩ := h
  exact ⟨v, h1, h2.key key, h3, h4.key key, h5⟩
theorem retM {F : Fence} {n : Nat} {P : Program} {fn : Func} {R : Ending → World → Prop} {a : Act} {w : World} {v : Value} (hr : (results fn a.tmps).run P w = .ok v w) (hd : a.defers = []) (hR : R (.returned v) w) : bodyPostM F n P fn R .ret a w := by
 show LeavesInM F n P fn a.tmps R a.defers .returning w
 rw [hd]
 exact ⟨v, hr, hR⟩
theorem panM {F : Fence} {n : Nat} {P : Program} {fn : Func} {R : Ending → World → Prop} {a : Act} {w : World} {ch : List PanicEntry} (hd : a.defers = []) (hR : R (.panicked ch) w) : bodyPostM F n P fn R (.panic ch) a w := by
 show LeavesInM F n P fn a.tmps R a.defers (.panicking ch) w
 rw [hd]
 exact hR
def foldN (ts : Nat → T) (r : T) (ks : List Nat) : T := ks.foldl (fun r k => twoT dotS (ts k) r) r
theorem fold_snoc (ts : Nat → T) (r : T) (ks : List Nat) (k : Nat) : foldN ts r (ks ++ [k]) = twoT dotS (ts k) (foldN ts r ks) := by simp [foldN]
theorem fold_down (l : List T) : ∀ (m : Nat) (r : T), m ≤ l.length → foldN (fun k => l.getD k .nil) r (downL m) = listT (l.take m) r
 | 0, r, _ => rfl
 | m + 1, r, h => by
  show foldN _ (twoT dotS (l.getD m .nil) r) (downL m) = _
  rw [fold_down l m _ (by omega), List.take_succ_eq_append_getElem (by omega)]
  unfold listT
  rw [List.foldr_append, List.getD_eq_getElem?_getD, List.getElem?_eq_getElem (by omega)]
  rfl
theorem fold_all (l : List T) (r : T) : foldN (fun k => l.getD k .nil) r (downL l.length) = listT l r := by rw [fold_down l l.length r (Nat.le_refl _), List.take_length]
theorem fold_nodes (ts : Nat → T) : ∀ (m : Nat) (r : T), (foldN ts r (downL m)).nodes = r.nodes + (sumTo m fun k => (ts k).nodes) + m
 | 0, r => by simp [foldN, downL, sumTo]
 | m + 1, r => by
  show (foldN ts (twoT dotS (ts m) r) (downL m)).nodes = _
  rw [fold_nodes ts m, sumTo_succ]
  have := two_nodes dotS (ts m) r
  unfold twoT
  rw [this]
  omega
theorem keeps_put {B rb : Nat} {W W1 : World} {cs : Array Value} {t : TypeId} {m : Nat × Nat} (hb : Below W.heap.size W W1) (hrb : W.heap[rb]? = some (.cells cs t m)) (v0 v1 v2 v3 : Value) : KeepsFrom B W ((((W1.setCell ⟨rb, 0, none⟩ v0).setCell ⟨rb, 1, none⟩ v1).setCell ⟨rb, 2, none⟩ v2).setCell ⟨rb, 3, none⟩ v3) := by
 refine ⟨by simpa using hb.size, fun k o _ hk ho => ?_⟩
 have hne : k ≠ rb := by
  rintro rfl
  rw [hrb] at hk
  injection hk with hk
  subst hk
  cases ho
 rw [Below.heap_setCell _ _ _ k hne, Below.heap_setCell _ _ _ k hne, Below.heap_setCell _ _ _ k hne, Below.heap_setCell _ _ _ k hne]
 exact (hb.block k (heap_lt hk)).trans hk
theorem kb1_put {n1 rb : Nat} {W W1 : World} (hb : Below W.heap.size W W1) (hn : n1 ≤ W.heap.size) (v0 v1 v2 v3 : Value) : Kb1 n1 rb W ((((W1.setCell ⟨rb, 0, none⟩ v0).setCell ⟨rb, 1, none⟩ v1).setCell ⟨rb, 2, none⟩ v2).setCell ⟨rb, 3, none⟩ v3) := by
 intro k hk hne
 rw [Below.heap_setCell _ _ _ k hne, Below.heap_setCell _ _ _ k hne, Below.heap_setCell _ _ _ k hne, Below.heap_setCell _ _ _ k hne]
 exact hb.block k (by omega)
theorem retMD {F : Fence} {n : Nat} {P : Program} {fn : Func} {R : Ending → World → Prop} {a : Act} {w : World} {v : Value} {D : Nat} (hK : w.heap[D]? = some (.deferred (some []))) (hr : (results fn a.tmps).run P (w.putObj D (.deferred none)) = .ok v (w.putObj D (.deferred none))) (hd : a.defers = [{ target := .collected D, args := #[] }]) (hR : R (.returned v) (w.putObj D (.deferred none))) : bodyPostM F n P fn R .ret a w := by
 show LeavesInM F n P fn a.tmps R a.defers .returning w
 rw [hd]
 exact ⟨by simp, .inl ⟨_, _, rfl, run_takeDeferred hK, ⟨v, hr, hR⟩⟩⟩
theorem must_err {α : Type} {tk : List Tk} {sz : Nat} {m : ByteArray} {x : α} {i : Nat} {ns : List ByteArray} {pk : Int × Int} (h : mustN tk sz m () i ns = .error pk) : mustN tk sz m x i ns = .error pk := by
 unfold mustN at h ⊢
 split at h
 ·cases h
 ·rename_i h9
  rw [if_neg h9]
  injection h with h
  rw [h]
theorem must_okv {α : Type} {tk : List Tk} {sz : Nat} {m : ByteArray} {x : α} {i j : Nat} {ns ns' : List ByteArray} {u : Unit} (h : mustN tk sz m () i ns = .ok (u, j, ns')) : mustN tk sz m x i ns = .ok (x, j, ns') := by
 unfold mustN at h ⊢
 split at h
 ·rename_i h9
  rw [if_pos h9]
  injection h with h
  injection h with _ h
  rw [h]
 ·cases h
set_option maxRecDepth 100000 in
set_option maxHeartbeats 8000000 in
theorem plist_any {c : Rdc} (D : Nat) {tm : Int → Nat → List ByteArray → PR T} (IH : PTermC c ((D : Int) + 1) tm) (hD : D ≤ 64) (w : World) (i0 : Nat) (ns : List ByteArray) (h : Pd w c (i0 + 1) ns) (hev : Ev c w) :
 Calls Tryz.prog 87 #[.pointer (some ⟨c.R, 0, none⟩), .int .i64 (D : Int)] w fun e w' => PQ c w (i0 + 1) (listP c.tk c.s.size tm (i0 + 1) ns) (RelT w i0) e w' := by
 have hB := h.base
 have H := Lib.hid h
 have HE := Lib.hid hev
 clear h hev
 obtain ⟨RS, hRS⟩ : ∃ RS, listP c.tk c.s.size tm (i0 + 1) ns = RS := ⟨_, rfl⟩
 have HRS := Lib.hid hRS
 rw [hRS]
 clear hRS
 refine (callsIn_wide (n := 10)).1 (callsIn_of_wp_marks Tryz.func87 rfl trivial (wpIn_wide.2 ?_))
 simp only [Tryz.ntmps87, List.size_toArray, List.length_cons, List.length_nil, Nat.reduceAdd, Nat.reduceSub, Array.replicate_succ, Array.replicate_zero, List.push_toArray, List.append_toArray, List.nil_append, List.cons_append]
 have B1 := Lib.hid (belP (Below.refl w.heap.size w) (Obj.cells #[.int .i64 0, .int .i64 0, .string ⟨#[]⟩, .slice none 0 0] 39))
 have F1 := Lib.hid (Frp.of_below B1.out hB)
 have H1 := Lib.hid (H.out.below B1.out)
 have X1 := Lib.hid (heap_alloc_new w (Obj.cells #[.int .i64 0, .int .i64 0, .string ⟨#[]⟩, .slice none 0 0] 39))
 go_wp2_with fail
 refine (pconst_any _ _).mono ?_
 rintro e w1 ⟨rfl, hb1⟩
 have ha1 := hb1.size
 have hs1 : w.heap.size + 1 ≤ w1.heap.size := by simpa using ha1
 have H2 := Lib.hid ((H1.out.below hb1).alloc (Obj.cells #[.int .i64 3, .int .i64 0, .string ⟨#[91, 93]⟩, .slice none 0 0] 39))
 have F2 := Lib.hid ((F1.out.trans (Frp.of_below hb1 H1.out.base)).newalloc hB (Obj.cells #[.int .i64 3, .int .i64 0, .string ⟨#[91, 93]⟩, .slice none 0 0] 39))
 have Y2 := Lib.hid (heap_alloc_new w1 (Obj.cells #[.int .i64 3, .int .i64 0, .string ⟨#[91, 93]⟩, .slice none 0 0] 39))
 have X2 := Lib.hid ((Below.heap_alloc w1 (Obj.cells #[.int .i64 3, .int .i64 0, .string ⟨#[91, 93]⟩, .slice none 0 0] 39) w.heap.size (by omega)).trans ((hb1.block _ (heap_lt X1.out)).trans X1.out))
 clear hb1 ha1
 go_wp2_with fail
 refine (pmark_any _ _ H2.out).mono ?_
 rintro e w2 ⟨b, rfl, hM, h2, f2, hlt⟩
 have HM := Lib.hid hM
 cases b with
 | true =>
  replace h2 : Pd w2 c (i0 + 1 + 1) ns := h2
  have H3 := Lib.hid h2
  have F3 := Lib.hid (F2.out.trans f2)
  have hs2 := f2.size
  have hs3 : w1.heap.size + 1 ≤ w2.heap.size := by simpa using hs2
  have Y3 := Lib.hid (f2.boxp H2.out Y2.out (by decide) (by decide))
  have X3 := Lib.hid (f2.boxp H2.out X2.out (by decide) (by decide))
  obtain ⟨y0, y1, y2, y3⟩ := box4t Y3.out
  obtain ⟨x0, x1, x2, x3⟩ := box4t X3.out
  have xf : ∀ j, w2.frozen? ⟨w.heap.size, j, none⟩ = false := fun j => by simp [World.frozen?, X3.out]
  clear h2 f2 hlt hM hs2
  go_wp2_with fail
  obtain ⟨p0, p1, p2, p3⟩ := box4t (box_put4 X3.out (.int .i64 3) (.int .i64 0) (.string ⟨#[91, 93]⟩) (.slice none 0 0) rfl).1
  refine retM (v := .agg #[.int .i64 3, .int .i64 0, .string ⟨#[91, 93]⟩, .slice none 0 0]) (by simp [results, go_sem, p0, p1, p2, p3]) rfl ?_
  exact ret_boxq H3.out F3.out hB X3.out (Nat.le_refl _) (TP.leaf _ _ 3 0 _) (by omega) (atom_good _ (by decide)) (by rw [leaf_nodes]; omega) (by rw [← HRS.out, listP_nil HM.out]; rfl)
 | false =>
  replace h2 : Pd w2 c (i0 + 1) ns := h2
  have H3 := Lib.hid h2
  have F3 := Lib.hid (F2.out.trans f2)
  have hs2 := f2.size
  have hs3 : w1.heap.size + 1 ≤ w2.heap.size := by simpa using hs2
  have Y3 := Lib.hid (f2.boxp H2.out Y2.out (by decide) (by decide))
  have X3 := Lib.hid (f2.boxp H2.out X2.out (by decide) (by decide))
  have HR0 := Lib.hid (show RS = _ by rw [← HRS.out, listP_row HM.out])
  clear h2 f2 hlt hM hs2
  go_wp2_with fail
  refine (prow_any D IH hD _ _ _ H3.out (HE.out.fr F3.out)).mono ?_
  rintro e w3 hq
  cases hres : rowP c.tk c.s.size tm (i0 + 1) ns with
  | error pk =>
   obtain ⟨p, k⟩ := pk
   obtain ⟨f3, rfl⟩ := hq.err hres
   have HR := Lib.hid (show RS = .error (p, k) by rw [HR0.out, hres]; rfl)
   clear hq hres
   go_wp2_with fail
   refine panM rfl ?_
   rw [HR.out]
   exact ⟨F3.out.trans f3, rfl⟩
  | ok y =>
   obtain ⟨l, j, ns3⟩ := y
   obtain ⟨f3, v, rfl, h3, hj, g, cs, fg, rfl, hl0, hl1, hg0, hblk, hcs, hgd, hnd⟩ := hq.ok hres
   have LS3 := Lib.hid (show LsI c w w3 j l.length g w1.heap.size cs (fun k => l.getD k .nil) (atT nilS) 3 0 ⟨#[91, 93]⟩ none 0 0 ns3 fg from
    ⟨hblk, fun k hk => by
     obtain ⟨v0, v1, v2, v3, q0, q1, q2, q3, ht⟩ := hcs k hk
     exact ⟨v0, v1, v2, v3, q0, q1, q2, q3, ht.more fun b hb => ⟨by omega, by omega⟩⟩, ⟨by omega, by omega⟩, hs1, f3.boxp H3.out Y3.out (by decide) (by decide), TP.leaf _ _ 3 0 _, f3.boxp H3.out X3.out (by decide) (by decide), h3, F3.out.trans f3, atom_good _ (by decide), hgd⟩)
   have HRR := Lib.hid (show RS = if isM c.tk c.s.size j ⟨#[124]⟩ then (tm 999 (j + 1) ns3).andThen fun r j2 ns2 => mustN c.tk c.s.size ⟨#[93]⟩ (listT l r) j2 ns2 else mustN c.tk c.s.size ⟨#[93]⟩ (listT l (atT nilS)) j ns3 by rw [HR0.out, hres]; rfl)
   have hlen : l.length ≤ 1000 := by have := h3.few; omega
   obtain ⟨n, hn⟩ : ∃ n, n = l.length := ⟨_, rfl⟩
   obtain ⟨ts, hts⟩ : ∃ ts, ts = fun k => l.getD k .nil := ⟨_, rfl⟩
   rw [← hn, ← hts] at LS3
   rw [← hn]
   have HN := Lib.hid hn
   have HTS := Lib.hid hts
   have HND := Lib.hid (show i0 + 1 + (sumTo n fun k => (ts k).nodes) + (n - 1) ≤ j by rw [hn, hts]; exact hnd)
   have hn0 : 0 < n := by omega
   have hn1 : n ≤ 1000 := by omega
   clear hq hres h3 f3 hl0 hl1 hg0 hblk hcs hgd hnd hn hts hlen X3 Y3 H3 HR0
   go_wp2_with fail
   refine (pmark_any _ _ LS3.out.rd).mono ?_
   rintro e w4 ⟨b, rfl, hM, h4, f4, hlt⟩
   have HM4 := Lib.hid hM
   cases b with
   | false =>
    replace h4 : Pd w4 c j ns3 := h4
    have LS4 := Lib.hid (LS3.out.stand f4 h4)
    have HR4 := Lib.hid (show RS = mustN c.tk c.s.size ⟨#[93]⟩ (listT l (atT nilS)) j ns3 by rw [HRR.out, if_neg (by rw [HM4.out]; decide)])
    clear h4 f4 hlt hM
    have CM := Lib.hid (pmust_any ⟨#[93]⟩ _ LS4.out.rd)
    go_wp2_with fail
    refine CM.out.mono ?_
    rintro e W5 hq
    cases hres : mustN c.tk c.s.size ⟨#[93]⟩ () j ns3 with
    | error pk =>
     obtain ⟨p, k⟩ := pk
     obtain ⟨f5, rfl⟩ := hq.err hres
     have HR := Lib.hid (show RS = .error (p, k) by rw [HR4.out]; exact must_err hres)
     have F5 := Lib.hid (LS4.out.fr.trans f5)
     clear hq hres f5
     go_wp2_with fail
     refine panM rfl ?_
     rw [HR.out]
     exact ⟨F5.out, rfl⟩
    | ok y =>
     obtain ⟨_, j2, ns5⟩ := y
     obtain ⟨f5, v, rfl, h5, hj5, rfl, hji⟩ := hq.ok hres
     have HR5 := Lib.hid (show RS = .ok (listT l (atT nilS), j2, ns5) by rw [HR4.out]; exact must_okv hres)
     have LS5 := Lib.hid (LS4.out.stand f5 h5)
     clear hq hres f5 h5 CM
     have W5s := Lib.hid (LS5.out.below ((Below.refl W5.heap.size W5).alloc (Nat.le_refl _) (.cells #[.slice (some ⟨g, 0, none⟩) n n] 35)))
     have SB := Lib.hid (heap_alloc_new W5 (.cells #[.slice (some ⟨g, 0, none⟩) n n] 35))
     have hs5 := heap_lt LS5.out.row
     have hs6 := heap_lt LS5.out.box
     have hs7 := heap_lt LS5.out.res
     go_wp2_with fail
     refine (backward_any _ _ n n rfl _).mono ?_
     rintro e w7 ⟨rfl, rfl⟩
     go_wp2_with fail
     have hW7 : (W5.alloc (Obj.cells #[.slice (some ⟨g, 0, none⟩) n n] 35)).heap.size = W5.heap.size + 1 := by simp
     generalize W5.alloc (Obj.cells #[.slice (some ⟨g, 0, none⟩) n n] 35) = W7 at *
     have hgg := LS5.out.hg
     have hrbb := LS5.out.hrb
     have BS := back_stops 9 W5.heap.size g n n W7.heap.size w1.heap.size cs W7 (by omega) (by omega) ⟨by omega, by omega⟩ ⟨by omega, hgg.2⟩ SB.out W5s.out.row (fun k hk => by
      obtain ⟨u, hu, _⟩ := W5s.out.tp.get k hk
      exact ⟨u, hu⟩)
     refine (wpIn_wide (n := 10)).1 (wpIn_rangeFunc_ownH (n := 10) rfl (by omega) (gf := 118) (lb := #[.pointer (some ⟨W5.heap.size, 0, none⟩)]) rfl trivial (enters_of Tryz.func118 (by kernel_rfl) rfl) BS
      (fun h k => h.trans k) (fun W l o o' hl ho _ _ b hb _ => World.putObj_heap_other (by omega)) (Below.refl _ _) (fun _ => rfl)
      (fun pre W => ∃ r a0 a1 a2 a3 a4 a5, LsI c w W j2 n g w1.heap.size cs ts r a0 a1 a2 a3 a4 a5 ns5 fg ∧ Hid (r = foldN ts (atT nilS) (pre.map Fin.val)) ∧ W7.heap.size ≤ W.heap.size)
      (fun _ _ _ => False) ?_ (fun _ _ _ _ _ h _ _ => h) ⟨_, _, _, _, _, _, _, W5s.out, Lib.hid rfl, Nat.le_refl _⟩
      (fun x a' W => ∃ Bx k0 k1 k2 A0 m0 c0, W7.heap.size ≤ Bx ∧ W.heap[Bx]? = some (.cells #[.int .i64 k0, .int .i64 k1, .string k2, .slice A0 m0 c0] 39 (0, 0)) ∧ valAt cs x.1 = .agg #[.int .i64 k0, .int .i64 k1, .string k2, .slice A0 m0 c0] ∧ a' = { tmps := #[.pointer (some ⟨c.R, 0, none⟩), .int .i64 (D : Int), undef, undef, .pointer (some ⟨w.heap.size, 0, none⟩), .pointer (some ⟨w1.heap.size, 0, none⟩), .slice (some ⟨g, 0, none⟩) n n, undef, .pointer (some ⟨Bx, 0, none⟩), .agg #[.int .i64 3, .int .i64 0, .string ⟨#[91, 93]⟩, .slice none 0 0], .pointer (some ⟨c.R, 0, none⟩), .bool false, undef, .pointer (some ⟨c.R, 0, none⟩), .int .i64 (D : Int), .slice (some ⟨g, 0, none⟩) n n, .pointer (some ⟨c.R, 0, none⟩), .bool false, undef, undef, undef, undef, .pointer (some ⟨c.R, 0, none⟩), .tuple #[], .slice (some ⟨g, 0, none⟩) n n, .func (.func 118) #[] #[.pointer (some ⟨W5.heap.size, 0, none⟩)], .int .i64 (x.1 : Int), .agg #[.int .i64 k0, .int .i64 k1, .string k2, .slice A0 m0 c0], undef, undef, undef, undef, undef], defers := [] }) ?_ ?_ ?_ ?_ ?_)
     ·rintro pre A B row ⟨r, a0, a1, a2, a3, a4, a5, hI, hr0, hsz⟩ hg hr
      exact ⟨r, a0, a1, a2, a3, a4, a5, hI.grown hB hg fun q e => ⟨by have := (hr q e).1; omega, (hr q e).2⟩, hr0, Nat.le_trans hsz hg.size⟩
     ·rintro x a' _ A B row ⟨Bx, k0, k1, k2, A0, m0, c0, h1, h2, h3, h4⟩ hg hr
      exact ⟨Bx, k0, k1, k2, A0, m0, c0, h1, key_grown hg (fun q e => (hr q e).2) _ _ _ _ h2, h3, h4⟩
     ·rintro l' pre x W K ⟨r, a0, a1, a2, a3, a4, a5, hI, hr0, hsz⟩ hK
      obtain ⟨v0, v1, v2, v3, q0, q1, q2, q3, ht⟩ := hI.tp x.1 x.2
      obtain ⟨k0, k1, k2, A0, m0, c0, hag⟩ := ht.agg
      injection hag with hag
      simp only [Array.mk.injEq, List.cons.injEq, and_true] at hag
      obtain ⟨rfl, rfl, rfl, rfl⟩ := hag
      have hval : valAt cs x.1 = .agg #[.int .i64 k0, .int .i64 k1, .string k2, .slice A0 m0 c0] := by
       unfold valAt
       simp only [Array.getD_eq_getD_getElem?, q0, q1, q2, q3, Option.getD_some]
      have hI2 := Lib.hid (hI.below ((Below.refl W.heap.size W).alloc (Nat.le_refl _) (Obj.cells #[.int .i64 k0, .int .i64 k1, .string k2, .slice A0 m0 c0] 39)))
      have HV := Lib.hid hval
      unfold encB
      rw [hval]
      clear ht hI hval q0 q1 q2 q3
      gi_wp2
      exact hK _ _ ((KeepsOthers.alloc _ _).from _) (fun b hb _ => Below.heap_alloc _ _ _ (by omega)) ⟨r, a0, a1, a2, a3, a4, a5, hI2.out, hr0, by simp; omega⟩ ⟨W.heap.size, k0, k1, k2, A0, m0, c0, hsz, heap_alloc_new _ _, HV.out, rfl⟩
     ·rintro l' pre x a' W hl' ⟨rr, hrr⟩ ⟨r, a0, a1, a2, a3, a4, a5, hI, hr0, hsz⟩ ⟨Bx, k0, k1, k2, A0, m0, c0, h1, h2, h3, rfl⟩ hlen
      have hbx := heap_lt h2
      have hbr := heap_lt hI.box
      obtain ⟨x0, x1, x2, x3⟩ := box4t h2
      obtain ⟨y0, y1, y2, y3⟩ := box4t hI.box
      have HTX := Lib.hid (show TP W (fun b => w.heap.size + 1 ≤ b ∧ b ≠ w1.heap.size) (ts x.1) (.agg #[.int .i64 k0, .int .i64 k1, .string k2, .slice A0 m0 c0]) by
       obtain ⟨v0, v1, v2, v3, q0, q1, q2, q3, ht⟩ := hI.tp x.1 x.2
       have e : valAt cs x.1 = .agg #[v0, v1, v2, v3] := by
        unfold valAt
        simp only [Array.getD_eq_getD_getElem?, q0, q1, q2, q3, Option.getD_some]
       rw [← h3, e]
       exact ht)
      have HGX := Lib.hid (hI.gd.2 x.1 x.2)
      have LS := Lib.hid hI
      have HR0 := Lib.hid hr0.out
      clear hI hr0 h2 h3
      gi_wp2
      refine ⟨trivial, ?_⟩
      refine (CallsIn.inRound l' (callsIn_wide.2 (pcell_any ⟨#[46]⟩ _ 2 2 _))).mono ?_
      rintro e W2 ⟨rfl, hb2⟩
      have hb3 := Lib.hid (((Below.refl W.heap.size W).alloc (Nat.le_refl _) (Obj.cells #[.int .i64 k0, .int .i64 k1, .string k2, .slice A0 m0 c0, .int .i64 a0, .int .i64 a1, .string a2, .slice a3 a4 a5] 39)).trans (hb2.mono (by simp)))
      have hrow := (hb2.block W.heap.size (by simp)).trans (heap_alloc_new W (Obj.cells #[.int .i64 k0, .int .i64 k1, .string k2, .slice A0 m0 c0, .int .i64 a0, .int .i64 a1, .string a2, .slice a3 a4 a5] 39))
      have LP := Lib.hid (LS.out.put hB hb3.out (r' := twoT dotS (ts x.1) r) (b0 := 4) (b1 := 0) (b2 := ⟨#[46]⟩) (b3 := some ⟨W.heap.size, 0, none⟩) (b4 := 2) (b5 := 2)
       ⟨_, _, rfl, Nat.le_refl _, (fun h => by cases h), fun _ => ⟨W.heap.size, _, _, rfl, .inr (Nat.le_refl _), hrow, fun i hi => by
        rcases (by omega : i = 0 ∨ i = 1) with rfl | rfl
        ·exact ⟨_, _, _, _, rfl, rfl, rfl, rfl, (HTX.out.below hb3.out).more fun b hb => .inl hb⟩
        ·exact ⟨_, _, _, _, rfl, rfl, rfl, rfl, (LS.out.ht.below hb3.out).more fun b hb => .inl hb⟩⟩⟩ (two_good _ (by decide) HGX.out LS.out.gd.1))
      have hbox2 := (hb3.out.block _ hbr).trans LS.out.box
      obtain ⟨z0, z1, z2, z3⟩ := box4t hbox2
      have zf : ∀ j, W2.frozen? ⟨w1.heap.size, j, none⟩ = false := fun j => by simp [World.frozen?, hbox2]
      clear hb2 hrow hbox2 x0 x1 x2 x3 y0 y1 y2 y3
      gi_wp2
      exact ⟨keeps_put hb3.out LS.out.box _ _ _ _, kb1_put hb3.out hsz _ _ _ _, _, _, _, _, _, _, _, LP.out, Lib.hid (by rw [HR0.out, List.map_append]; exact (fold_snoc _ _ _ _).symm), by have := hb3.out.size; simp; omega⟩
     ·rintro D' xs W hD' hxs ⟨r, a0, a1, a2, a3, a4, a5, hI, hr0, hsz⟩ hK
      have hr1 : r = foldN ts (atT nilS) (downL n) := by rw [hr0.out, hxs]
      have HLT := Lib.hid (show r = listT l (atT nilS) by rw [hr1, HTS.out, HN.out]; exact fold_all l (atT nilS))
      have HNO := Lib.hid (show r.nodes = ((atT nilS) : T).nodes + (sumTo n fun k => (ts k).nodes) + n by rw [hr1]; exact fold_nodes ts n (atT nilS))
      have LS := Lib.hid hI
      obtain ⟨y0, y1, y2, y3⟩ := box4t hI.box
      obtain ⟨x0, x1, x2, x3⟩ := box4t hI.res
      have xf : ∀ j, W.frozen? ⟨w.heap.size, j, none⟩ = false := fun j => by simp [World.frozen?, LS.out.res]
      have hDne : D' ≠ w.heap.size := by omega
      have HK := Lib.hid (show ((((W.setCell ⟨w.heap.size, 0, none⟩ (.int .i64 a0)).setCell ⟨w.heap.size, 1, none⟩ (.int .i64 a1)).setCell ⟨w.heap.size, 2, none⟩ (.string a2)).setCell ⟨w.heap.size, 3, none⟩ (.slice a3 a4 a5)).heap[D']? = some (.deferred (some [])) by
       rw [Below.heap_setCell _ _ _ D' hDne, Below.heap_setCell _ _ _ D' hDne, Below.heap_setCell _ _ _ D' hDne, Below.heap_setCell _ _ _ D' hDne]
       exact hK)
      have PB := (box_put4 hI.res (.int .i64 a0) (.int .i64 a1) (.string a2) (.slice a3 a4 a5) rfl).1
      have PBD := Lib.hid (show (((((W.setCell ⟨w.heap.size, 0, none⟩ (.int .i64 a0)).setCell ⟨w.heap.size, 1, none⟩ (.int .i64 a1)).setCell ⟨w.heap.size, 2, none⟩ (.string a2)).setCell ⟨w.heap.size, 3, none⟩ (.slice a3 a4 a5)).putObj D' (.deferred none)).heap[w.heap.size]? = some (.cells #[.int .i64 a0, .int .i64 a1, .string a2, .slice a3 a4 a5] 39 (0, 0)) from (World.putObj_heap_other (by omega)).trans PB)
      clear hI hr0 hr1 hK PB
      go_wp2_with fail
      obtain ⟨p0, p1, p2, p3⟩ := box4t PBD.out
      refine retMD HK.out (v := .agg #[.int .i64 a0, .int .i64 a1, .string a2, .slice a3 a4 a5]) (by simp [results, go_sem, p0, p1, p2, p3]) rfl ?_
      exact (ret_boxq (i0 := i0) (i := i0 + 1) LS.out.rd LS.out.fr hB LS.out.res (Nat.le_refl _) (LS.out.ht.more fun b hb => ⟨by omega, by omega⟩) (by have := HND.out; have e1 : (atT nilS).nodes = 1 := rfl; omega) LS.out.gd.1 (by rw [HNO.out]; have := HND.out; have e1 : (atT nilS).nodes = 1 := rfl; omega) (by rw [HLT.out]; exact HR5.out)).put hB (by omega) HK.out rfl
     ·rintro D' cc' pre W _ _ h _
      exact h.elim
   | true =>
    replace h4 : Pd w4 c (j + 1) ns3 := h4
    have LS4a := Lib.hid (LS3.out.stand f4 h4)
    clear h4 f4 hlt hM
    go_wp2_with fail
    refine (IH 999 _ _ _ LS4a.out.rd (HE.out.fr LS4a.out.fr)).mono ?_
    rintro e w5 hq
    cases hres : tm 999 (j + 1) ns3 with
    | error pk =>
     obtain ⟨p, k⟩ := pk
     obtain ⟨f5, rfl⟩ := hq.err hres
     have HR := Lib.hid (show RS = .error (p, k) by rw [HRR.out, if_pos HM4.out, hres]; rfl)
     clear hq hres
     go_wp2_with fail
     refine panM rfl ?_
     rw [HR.out]
     exact ⟨LS4a.out.fr.trans f5, rfl⟩
    | ok y =>
     obtain ⟨t, j4, ns4⟩ := y
     obtain ⟨f5, v, rfl, h5, hj5, ht, hgood, hnod⟩ := hq.ok hres
     obtain ⟨q0, q1, q2, Aq, mq, cq, rfl⟩ := ht.agg
     have LS4b := Lib.hid (LS4a.out.stand f5 h5)
     have hrb4 := heap_lt LS4a.out.box
     have hsz4 := LS4a.out.fr.size
     have LS4 := Lib.hid (LS4b.out.put hB (Below.refl _ _) (r' := t) (b0 := q0) (b1 := q1) (b2 := q2) (b3 := Aq) (b4 := mq) (b5 := cq) (ht.more fun b hb => .inl ⟨by have := LS4a.out.hrb; omega, by omega⟩) hgood)
     have HR4 := Lib.hid (show RS = mustN c.tk c.s.size ⟨#[93]⟩ (listT l t) j4 ns4 by rw [HRR.out, if_pos HM4.out, hres]; rfl)
     obtain ⟨y0, y1, y2, y3⟩ := box4t LS4b.out.box
     have yf : ∀ j, w5.frozen? ⟨w1.heap.size, j, none⟩ = false := fun j => by simp [World.frozen?, LS4b.out.box]
     have HNT := Lib.hid (And.intro hj5 hnod)
     clear hq hres h5 f5 hj5 ht hgood hnod
     have CM := Lib.hid (pmust_any ⟨#[93]⟩ _ LS4.out.rd)
     go_wp2_with fail
     refine CM.out.mono ?_
     rintro e W5 hq
     cases hres : mustN c.tk c.s.size ⟨#[93]⟩ () j4 ns4 with
     | error pk =>
      obtain ⟨p, k⟩ := pk
      obtain ⟨f5, rfl⟩ := hq.err hres
      have HR := Lib.hid (show RS = .error (p, k) by rw [HR4.out]; exact must_err hres)
      have F5 := Lib.hid (LS4.out.fr.trans f5)
      clear hq hres f5
      go_wp2_with fail
      refine panM rfl ?_
      rw [HR.out]
      exact ⟨F5.out, rfl⟩
     | ok y =>
      obtain ⟨_, j2, ns5⟩ := y
      obtain ⟨f5, v, rfl, h5, hj5, rfl, hji⟩ := hq.ok hres
      have HR5 := Lib.hid (show RS = .ok (listT l t, j2, ns5) by rw [HR4.out]; exact must_okv hres)
      have LS5 := Lib.hid (LS4.out.stand f5 h5)
      clear hq hres f5 h5 CM
      have W5s := Lib.hid (LS5.out.below ((Below.refl W5.heap.size W5).alloc (Nat.le_refl _) (.cells #[.slice (some ⟨g, 0, none⟩) n n] 35)))
      have SB := Lib.hid (heap_alloc_new W5 (.cells #[.slice (some ⟨g, 0, none⟩) n n] 35))
      have hs5 := heap_lt LS5.out.row
      have hs6 := heap_lt LS5.out.box
      have hs7 := heap_lt LS5.out.res
      go_wp2_with fail
      refine (backward_any _ _ n n rfl _).mono ?_
      rintro e w7 ⟨rfl, rfl⟩
      go_wp2_with fail
      have hW7 : (W5.alloc (Obj.cells #[.slice (some ⟨g, 0, none⟩) n n] 35)).heap.size = W5.heap.size + 1 := by simp
      generalize W5.alloc (Obj.cells #[.slice (some ⟨g, 0, none⟩) n n] 35) = W7 at *
      have hgg := LS5.out.hg
      have hrbb := LS5.out.hrb
      have BS := back_stops 9 W5.heap.size g n n W7.heap.size w1.heap.size cs W7 (by omega) (by omega) ⟨by omega, by omega⟩ ⟨by omega, hgg.2⟩ SB.out W5s.out.row (fun k hk => by
       obtain ⟨u, hu, _⟩ := W5s.out.tp.get k hk
       exact ⟨u, hu⟩)
      refine (wpIn_wide (n := 10)).1 (wpIn_rangeFunc_ownH (n := 10) rfl (by omega) (gf := 118) (lb := #[.pointer (some ⟨W5.heap.size, 0, none⟩)]) rfl trivial (enters_of Tryz.func118 (by kernel_rfl) rfl) BS
       (fun h k => h.trans k) (fun W l o o' hl ho _ _ b hb _ => World.putObj_heap_other (by omega)) (Below.refl _ _) (fun _ => rfl)
       (fun pre W => ∃ r a0 a1 a2 a3 a4 a5, LsI c w W j2 n g w1.heap.size cs ts r a0 a1 a2 a3 a4 a5 ns5 fg ∧ Hid (r = foldN ts t (pre.map Fin.val)) ∧ W7.heap.size ≤ W.heap.size)
       (fun _ _ _ => False) ?_ (fun _ _ _ _ _ h _ _ => h) ⟨_, _, _, _, _, _, _, W5s.out, Lib.hid rfl, Nat.le_refl _⟩
       (fun x a' W => ∃ Bx k0 k1 k2 A0 m0 c0, W7.heap.size ≤ Bx ∧ W.heap[Bx]? = some (.cells #[.int .i64 k0, .int .i64 k1, .string k2, .slice A0 m0 c0] 39 (0, 0)) ∧ valAt cs x.1 = .agg #[.int .i64 k0, .int .i64 k1, .string k2, .slice A0 m0 c0] ∧ a' = { tmps := #[.pointer (some ⟨c.R, 0, none⟩), .int .i64 (D : Int), undef, undef, .pointer (some ⟨w.heap.size, 0, none⟩), .pointer (some ⟨w1.heap.size, 0, none⟩), .slice (some ⟨g, 0, none⟩) n n, undef, .pointer (some ⟨Bx, 0, none⟩), .agg #[.int .i64 3, .int .i64 0, .string ⟨#[91, 93]⟩, .slice none 0 0], .pointer (some ⟨c.R, 0, none⟩), .bool false, undef, .pointer (some ⟨c.R, 0, none⟩), .int .i64 (D : Int), .slice (some ⟨g, 0, none⟩) n n, .pointer (some ⟨c.R, 0, none⟩), .bool true, .pointer (some ⟨c.R, 0, none⟩), .int .i64 (D : Int), .int .i64 ((D : Int) + 1), .agg #[.int .i64 q0, .int .i64 q1, .string q2, .slice Aq mq cq], .pointer (some ⟨c.R, 0, none⟩), .tuple #[], .slice (some ⟨g, 0, none⟩) n n, .func (.func 118) #[] #[.pointer (some ⟨W5.heap.size, 0, none⟩)], .int .i64 (x.1 : Int), .agg #[.int .i64 k0, .int .i64 k1, .string k2, .slice A0 m0 c0], undef, undef, undef, undef, undef], defers := [] }) ?_ ?_ ?_ ?_ ?_)
      ·rintro pre A B row ⟨r, a0, a1, a2, a3, a4, a5, hI, hr0, hsz⟩ hg hr
       exact ⟨r, a0, a1, a2, a3, a4, a5, hI.grown hB hg fun q e => ⟨by have := (hr q e).1; omega, (hr q e).2⟩, hr0, Nat.le_trans hsz hg.size⟩
      ·rintro x a' _ A B row ⟨Bx, k0, k1, k2, A0, m0, c0, h1, h2, h3, h4⟩ hg hr
       exact ⟨Bx, k0, k1, k2, A0, m0, c0, h1, key_grown hg (fun q e => (hr q e).2) _ _ _ _ h2, h3, h4⟩
      ·rintro l' pre x W K ⟨r, a0, a1, a2, a3, a4, a5, hI, hr0, hsz⟩ hK
       obtain ⟨v0, v1, v2, v3, q0, q1, q2, q3, ht⟩ := hI.tp x.1 x.2
       obtain ⟨k0, k1, k2, A0, m0, c0, hag⟩ := ht.agg
       injection hag with hag
       simp only [Array.mk.injEq, List.cons.injEq, and_true] at hag
       obtain ⟨rfl, rfl, rfl, rfl⟩ := hag
       have hval : valAt cs x.1 = .agg #[.int .i64 k0, .int .i64 k1, .string k2, .slice A0 m0 c0] := by
        unfold valAt
        simp only [Array.getD_eq_getD_getElem?, q0, q1, q2, q3, Option.getD_some]
       have hI2 := Lib.hid (hI.below ((Below.refl W.heap.size W).alloc (Nat.le_refl _) (Obj.cells #[.int .i64 k0, .int .i64 k1, .string k2, .slice A0 m0 c0] 39)))
       have HV := Lib.hid hval
       unfold encB
       rw [hval]
       clear ht hI hval q0 q1 q2 q3
       gi_wp2
       exact hK _ _ ((KeepsOthers.alloc _ _).from _) (fun b hb _ => Below.heap_alloc _ _ _ (by omega)) ⟨r, a0, a1, a2, a3, a4, a5, hI2.out, hr0, by simp; omega⟩ ⟨W.heap.size, k0, k1, k2, A0, m0, c0, hsz, heap_alloc_new _ _, HV.out, rfl⟩
      ·rintro l' pre x a' W hl' ⟨rr, hrr⟩ ⟨r, a0, a1, a2, a3, a4, a5, hI, hr0, hsz⟩ ⟨Bx, k0, k1, k2, A0, m0, c0, h1, h2, h3, rfl⟩ hlen
       have hbx := heap_lt h2
       have hbr := heap_lt hI.box
       obtain ⟨x0, x1, x2, x3⟩ := box4t h2
       obtain ⟨y0, y1, y2, y3⟩ := box4t hI.box
       have HTX := Lib.hid (show TP W (fun b => w.heap.size + 1 ≤ b ∧ b ≠ w1.heap.size) (ts x.1) (.agg #[.int .i64 k0, .int .i64 k1, .string k2, .slice A0 m0 c0]) by
        obtain ⟨v0, v1, v2, v3, q0, q1, q2, q3, ht⟩ := hI.tp x.1 x.2
        have e : valAt cs x.1 = .agg #[v0, v1, v2, v3] := by
         unfold valAt
         simp only [Array.getD_eq_getD_getElem?, q0, q1, q2, q3, Option.getD_some]
        rw [← h3, e]
        exact ht)
       have HGX := Lib.hid (hI.gd.2 x.1 x.2)
       have LS := Lib.hid hI
       have HR0 := Lib.hid hr0.out
       clear hI hr0 h2 h3
       gi_wp2
       refine ⟨trivial, ?_⟩
       refine (CallsIn.inRound l' (callsIn_wide.2 (pcell_any ⟨#[46]⟩ _ 2 2 _))).mono ?_
       rintro e W2 ⟨rfl, hb2⟩
       have hb3 := Lib.hid (((Below.refl W.heap.size W).alloc (Nat.le_refl _) (Obj.cells #[.int .i64 k0, .int .i64 k1, .string k2, .slice A0 m0 c0, .int .i64 a0, .int .i64 a1, .string a2, .slice a3 a4 a5] 39)).trans (hb2.mono (by simp)))
       have hrow := (hb2.block W.heap.size (by simp)).trans (heap_alloc_new W (Obj.cells #[.int .i64 k0, .int .i64 k1, .string k2, .slice A0 m0 c0, .int .i64 a0, .int .i64 a1, .string a2, .slice a3 a4 a5] 39))
       have LP := Lib.hid (LS.out.put hB hb3.out (r' := twoT dotS (ts x.1) r) (b0 := 4) (b1 := 0) (b2 := ⟨#[46]⟩) (b3 := some ⟨W.heap.size, 0, none⟩) (b4 := 2) (b5 := 2)
        ⟨_, _, rfl, Nat.le_refl _, (fun h => by cases h), fun _ => ⟨W.heap.size, _, _, rfl, .inr (Nat.le_refl _), hrow, fun i hi => by
         rcases (by omega : i = 0 ∨ i = 1) with rfl | rfl
         ·exact ⟨_, _, _, _, rfl, rfl, rfl, rfl, (HTX.out.below hb3.out).more fun b hb => .inl hb⟩
         ·exact ⟨_, _, _, _, rfl, rfl, rfl, rfl, (LS.out.ht.below hb3.out).more fun b hb => .inl hb⟩⟩⟩ (two_good _ (by decide) HGX.out LS.out.gd.1))
       have hbox2 := (hb3.out.block _ hbr).trans LS.out.box
       obtain ⟨z0, z1, z2, z3⟩ := box4t hbox2
       have zf : ∀ j, W2.frozen? ⟨w1.heap.size, j, none⟩ = false := fun j => by simp [World.frozen?, hbox2]
       clear hb2 hrow hbox2 x0 x1 x2 x3 y0 y1 y2 y3
       gi_wp2
       exact ⟨keeps_put hb3.out LS.out.box _ _ _ _, kb1_put hb3.out hsz _ _ _ _, _, _, _, _, _, _, _, LP.out, Lib.hid (by rw [HR0.out, List.map_append]; exact (fold_snoc _ _ _ _).symm), by have := hb3.out.size; simp; omega⟩
      ·rintro D' xs W hD' hxs ⟨r, a0, a1, a2, a3, a4, a5, hI, hr0, hsz⟩ hK
       have hr1 : r = foldN ts t (downL n) := by rw [hr0.out, hxs]
       have HLT := Lib.hid (show r = listT l t by rw [hr1, HTS.out, HN.out]; exact fold_all l t)
       have HNO := Lib.hid (show r.nodes = (t : T).nodes + (sumTo n fun k => (ts k).nodes) + n by rw [hr1]; exact fold_nodes ts n t)
       have LS := Lib.hid hI
       obtain ⟨y0, y1, y2, y3⟩ := box4t hI.box
       obtain ⟨x0, x1, x2, x3⟩ := box4t hI.res
       have xf : ∀ j, W.frozen? ⟨w.heap.size, j, none⟩ = false := fun j => by simp [World.frozen?, LS.out.res]
       have hDne : D' ≠ w.heap.size := by omega
       have HK := Lib.hid (show ((((W.setCell ⟨w.heap.size, 0, none⟩ (.int .i64 a0)).setCell ⟨w.heap.size, 1, none⟩ (.int .i64 a1)).setCell ⟨w.heap.size, 2, none⟩ (.string a2)).setCell ⟨w.heap.size, 3, none⟩ (.slice a3 a4 a5)).heap[D']? = some (.deferred (some [])) by
        rw [Below.heap_setCell _ _ _ D' hDne, Below.heap_setCell _ _ _ D' hDne, Below.heap_setCell _ _ _ D' hDne, Below.heap_setCell _ _ _ D' hDne]
        exact hK)
       have PB := (box_put4 hI.res (.int .i64 a0) (.int .i64 a1) (.string a2) (.slice a3 a4 a5) rfl).1
       have PBD := Lib.hid (show (((((W.setCell ⟨w.heap.size, 0, none⟩ (.int .i64 a0)).setCell ⟨w.heap.size, 1, none⟩ (.int .i64 a1)).setCell ⟨w.heap.size, 2, none⟩ (.string a2)).setCell ⟨w.heap.size, 3, none⟩ (.slice a3 a4 a5)).putObj D' (.deferred none)).heap[w.heap.size]? = some (.cells #[.int .i64 a0, .int .i64 a1, .string a2, .slice a3 a4 a5] 39 (0, 0)) from (World.putObj_heap_other (by omega)).trans PB)
       clear hI hr0 hr1 hK PB
       go_wp2_with fail
       obtain ⟨p0, p1, p2, p3⟩ := box4t PBD.out
       refine retMD HK.out (v := .agg #[.int .i64 a0, .int .i64 a1, .string a2, .slice a3 a4 a5]) (by simp [results, go_sem, p0, p1, p2, p3]) rfl ?_
       exact (ret_boxq (i0 := i0) (i := i0 + 1) LS.out.rd LS.out.fr hB LS.out.res (Nat.le_refl _) (LS.out.ht.more fun b hb => ⟨by omega, by omega⟩) (by have := HND.out; have := HNT.out.1; have := HNT.out.2; omega) LS.out.gd.1 (by rw [HNO.out]; have := HND.out; have := HNT.out.1; have := HNT.out.2; omega) (by rw [HLT.out]; exact HR5.out)).put hB (by omega) HK.out rfl
      ·rintro D' cc' pre W _ _ h _
       exact h.elim
end Go.Proofs.YtibcpdmeigdgpaaGreatDoor
namespace Go.Proofs.YtibcpdmeigdgpaaGreatDoor
open Go.RowKit
theorem in_some {nm : ByteArray} {a b c : Int} {is : Bool} (h : (is = true ∧ opIn nm = some (a, b, c)) ∨ (is = false ∧ opIn nm = none ∧ a = 0 ∧ b = 0 ∧ c = 0)) : (opIn nm).isSome = is := by
 rcases h with ⟨rfl, h⟩ | ⟨rfl, h, _⟩ <;> rw [h] <;> rfl
theorem pre_some {nm : ByteArray} {a b : Int} {is : Bool} (h : (is = true ∧ opPre nm = some (a, b)) ∨ (is = false ∧ opPre nm = none ∧ a = 0 ∧ b = 0)) : (opPre nm).isSome = is := by
 rcases h with ⟨rfl, h⟩ | ⟨rfl, h, _⟩ <;> rw [h] <;> rfl
theorem alone_1 {x : Tk} (h : x.k = 1) : aloneP x = ((opIn x.t).isSome && !(opPre x.t).isSome) := by unfold aloneP; rw [if_pos h]
theorem alone_5 {x : Tk} (h : x.k = 5) : aloneP x = (!(x.t.toList == [40]) && !(x.t.toList == [91]) && !(x.t.toList == [123])) := by unfold aloneP; rw [if_neg (by omega), if_pos h]
theorem alone_no {x : Tk} (h : x.k = 2 ∨ x.k = 3 ∨ x.k = 4) : aloneP x = false := by unfold aloneP; rw [if_neg (by omega), if_neg (by omega), if_pos h]
theorem alone_yes {x : Tk} (h : x.k ≠ 1 ∧ x.k ≠ 2 ∧ x.k ≠ 3 ∧ x.k ≠ 4 ∧ x.k ≠ 5) : aloneP x = true := by unfold aloneP; rw [if_neg (by omega), if_neg (by omega), if_neg (by omega)]
set_option maxRecDepth 100000 in
set_option maxHeartbeats 8000000 in
theorem palone_any {c : Rdc} {i : Nat} {ns : List ByteArray} (w : World) (h : Pd w c i ns) (hev : Ev c w) : Calls Tryz.prog 106 #[.pointer (some ⟨c.R, 0, none⟩)] w fun e w' => e = .returned (.bool (aloneP (nx c i))) ∧ Below w.heap.size w w' := by
 have H := Lib.hid h
 have HE := Lib.hid hev
 have hB := h.base
 clear h hev
 have CI := Lib.hid (fun (nm : ByteArray) (W : World) (hf : Frp c w W) => pinfix_any nm W (HE.out.fr hf).ops)
 have CP := Lib.hid (fun (nm : ByteArray) (W : World) (hf : Frp c w W) => pprefix_any nm W (HE.out.fr hf).ops)
 have PK := Lib.hid (ppeek_any _ H.out)
 obtain ⟨x, hx⟩ : ∃ x, nx c i = x := ⟨_, rfl⟩
 rw [hx] at PK ⊢
 clear hx
 go_enter Tryz.func106, Tryz.ntmps106
 go_wp2_with fail
 refine PK.out.mono ?_
 rintro e w1 ⟨rfl, hb1⟩
 have B1 := Lib.hid (hb1.alloc hb1.size (Obj.cells #[.int .i64 x.k, .string x.t, .int .i64 (x.a : Int), .int .i64 (x.b : Int)] 83))
 have F1 := Lib.hid (Frp.of_below B1.out hB)
 have X1 := Lib.hid (heap_alloc_new w1 (Obj.cells #[.int .i64 x.k, .string x.t, .int .i64 (x.a : Int), .int .i64 (x.b : Int)] 83))
 clear hb1 PK
 by_cases k1 : x.k = 1
 ·have b1 : (x.k == 1) = true := by simpa using k1
  have HA := Lib.hid (alone_1 k1)
  clear k1
  go_wp2_with fail
  refine (CI.out x.t _ F1.out).mono ?_
  rintro e w2 ⟨⟨a, b, cc, is, rfl, hr⟩, hb2⟩
  have HS := Lib.hid (in_some hr.out)
  have B2 := Lib.hid (B1.out.trans (hb2.mono B1.out.size))
  have F2 := Lib.hid (Frp.of_below B2.out hB)
  have X2 := Lib.hid ((hb2.block _ (heap_lt X1.out)).trans X1.out)
  obtain ⟨x0, x1, x2, x3⟩ := box4t X2.out
  clear hr hb2
  go_wp2_with fail
  refine (CP.out x.t _ F2.out).mono ?_
  rintro e w3 ⟨⟨a', b', is', rfl, hr⟩, hb3⟩
  have HS2 := Lib.hid (pre_some hr.out)
  have B3 := Lib.hid (B2.out.trans (hb3.mono B2.out.size))
  clear hr hb3
  have HV := Lib.hid (show aloneP x = (is && !is') by rw [HA.out, HS.out, HS2.out])
  cases is with
  | true =>
   cases is'
   all_goals
    go_wp2_with fail
    go_ret
    exact ⟨by rw [HV.out]; rfl, B3.out⟩
  | false =>
   go_wp2_with fail
   go_ret
   exact ⟨by rw [HV.out]; rfl, B3.out⟩
 ·have b1 : (x.k == 1) = false := by simpa using k1
  by_cases k5 : x.k = 5
  ·have b5 : (x.k == 5) = true := by simpa using k5
   have HA := Lib.hid (alone_5 k5)
   obtain ⟨x0, x1, x2, x3⟩ := box4t X1.out
   clear k1 k5
   cases c40 : (x.t.toList == [40]) with
   | true =>
    have d40 : (x.t.toList != [40]) = false := by rw [bne, c40]; rfl
    have HV := Lib.hid (show aloneP x = false by rw [HA.out, c40]; rfl)
    go_wp2_with fail
    go_ret
    exact ⟨by rw [HV.out]; rfl, B1.out⟩
   | false =>
    have d40 : (x.t.toList != [40]) = true := by rw [bne, c40]; rfl
    cases c91 : (x.t.toList == [91]) with
    | true =>
     have d91 : (x.t.toList != [91]) = false := by rw [bne, c91]; rfl
     have HV := Lib.hid (show aloneP x = false by rw [HA.out, c40, c91]; rfl)
     go_wp2_with fail
     go_ret
     exact ⟨by rw [HV.out]; rfl, B1.out⟩
    | false =>
     have d91 : (x.t.toList != [91]) = true := by rw [bne, c91]; rfl
     cases c123 : (x.t.toList == [123]) with
     | true =>
      have d123 : (x.t.toList != [123]) = false := by rw [bne, c123]; rfl
      have HV := Lib.hid (show aloneP x = false by rw [HA.out, c40, c91, c123]; rfl)
      go_wp2_with fail
      go_ret
      exact ⟨by rw [HV.out]; rfl, B1.out⟩
     | false =>
      have d123 : (x.t.toList != [123]) = true := by rw [bne, c123]; rfl
      have HV := Lib.hid (show aloneP x = true by rw [HA.out, c40, c91, c123]; rfl)
      go_wp2_with fail
      go_ret
      exact ⟨by rw [HV.out]; rfl, B1.out⟩
  ·have b5 : (x.k == 5) = false := by simpa using k5
   by_cases k2 : x.k = 2
   ·have b2 : (x.k == 2) = true := by simpa using k2
    have HV := Lib.hid (alone_no (x := x) (.inl k2))
    clear k1 k5 k2
    go_wp2_with fail
    go_ret
    exact ⟨by rw [HV.out]; rfl, B1.out⟩
   ·have b2 : (x.k == 2) = false := by simpa using k2
    by_cases k3 : x.k = 3
    ·have b3 : (x.k == 3) = true := by simpa using k3
     have HV := Lib.hid (alone_no (x := x) (.inr (.inl k3)))
     clear k1 k5 k2 k3
     go_wp2_with fail
     go_ret
     exact ⟨by rw [HV.out]; rfl, B1.out⟩
    ·have b3 : (x.k == 3) = false := by simpa using k3
     by_cases k4 : x.k = 4
     ·have b4 : (x.k == 4) = true := by simpa using k4
      have HV := Lib.hid (alone_no (x := x) (.inr (.inr k4)))
      clear k1 k5 k2 k3 k4
      go_wp2_with fail
      go_ret
      exact ⟨by rw [HV.out]; rfl, B1.out⟩
     ·have b4 : (x.k == 4) = false := by simpa using k4
      have HV := Lib.hid (alone_yes (x := x) ⟨k1, k2, k3, k4, k5⟩)
      clear k1 k5 k2 k3 k4
      go_wp2_with fail
      go_ret
      exact ⟨by rw [HV.out]; rfl, B1.out⟩
end Go.Proofs.YtibcpdmeigdgpaaGreatDoor
