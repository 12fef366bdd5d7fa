/- The reference's parser: a list. -/
import Derived.Test.YtibcpdmeigdgpaaGreatDoorKGn
import Derived.Deep.RegionWith
import Derived.StillTailTactics
namespace Go.Proofs.YtibcpdmeigdgpaaGreatDoor
open Go.RowKit
theorem ret_box {c : Rdc} {w wk : World} {i0 i j : Nat} {ns' : List ByteArray} {pl pl' er er' : Int} {res : PR T} {t : T} {g : Nat} {m : Nat × Nat} {u0 u1 u2 u3 x0 x1 x2 x3 : Value} (H : Rd wk c j ns' pl' er') (F : Fr c w wk) (hB : c.B ≤ w.heap.size)
 (hbx : wk.heap[g]? = some (.cells #[u0, u1, u2, u3] 39 m)) (hg : w.heap.size ≤ g) (ht : TP wk (fun b => w.heap.size ≤ b ∧ b ≠ g) t (.agg #[x0, x1, x2, x3])) (hj : i ≤ j) (hok : er' = 0 → er = 0 ∧ t.good ∧ i0 + t.nodes ≤ j) (hsp : Hid (Sp er pl er' pl' res (t, j, ns'))) :
 RetT c w i0 i pl er res (.agg #[x0, x1, x2, x3]) ((((wk.setCell ⟨g, 0, none⟩ x0).setCell ⟨g, 1, none⟩ x1).setCell ⟨g, 2, none⟩ x2).setCell ⟨g, 3, none⟩ x3) :=
 ⟨j, er', t, ns', pl', H.put hbx _ _ _ _, F.put hg hB hbx _ _ _ _, hj, (tp_put hbx _ _ _ _ ht fun _ hb => hb.2).more fun _ hb => hb.1, hok, hsp⟩
theorem atom_good (s : ByteArray) (h : nameOk s) : (T.mk 3 0 s 0 fun _ => .nil).good := ⟨.inr (.inr (.inl ⟨rfl, rfl, h, rfl⟩)), fun i hi => absurd hi (by omega)⟩
theorem two_good (s : ByteArray) (h : nameOk s) {t t' : T} (ht : t.good) (ht' : t'.good) : (T.mk 4 0 s 2 fun i => if i = 0 then t else t').good :=
 ⟨.inr (.inr (.inr ⟨rfl, rfl, h, by omega⟩)), fun i hi => by dsimp only; split <;> assumption⟩
theorem two_nodes (s : ByteArray) (t t' : T) : (T.mk 4 0 s 2 fun i => if i = 0 then t else t').nodes = 1 + t.nodes + t'.nodes := by
 simp [T.nodes, sumTo]
 omega
structure ListI (c : Rdc) (w : World) (wr : World) (j : Nat) (er : Int) (n g gr m K : Nat) (cs : Array Value) (ts : Nat → T) (rest : T) (a0 a1 : Int) (a2 : ByteArray) (a3 : Option Addr) (a4 a5 : Nat) (ns : List ByteArray) (pl : Int) : Prop where
 row : wr.heap[g]? = some (.cells cs 39 (0, 0))
 tp : Cells4 wr (fun b => w.heap.size + 1 ≤ b ∧ b ≠ gr) cs n ts
 hg : w.heap.size + 1 ≤ g ∧ g ≠ gr
 hgr : w.heap.size + 1 ≤ gr
 box : wr.heap[gr]? = some (.cells #[.int .i64 a0, .int .i64 a1, .string a2, .slice a3 a4 a5] 39 (0, 0))
 ht : TP wr (fun b => w.heap.size + 1 ≤ b ∧ b ≠ gr) rest (.agg #[.int .i64 a0, .int .i64 a1, .string a2, .slice a3 a4 a5])
 res : wr.heap[w.heap.size]? = some (.cells #[.int .i64 0, .int .i64 0, .string ⟨#[]⟩, .slice none 0 0] 39 (0, 0))
 rd : Rd wr c j ns pl er
 fr : Fr c w wr
 hm : m ≤ n
 ok : er = 0 → rest.good ∧ (∀ k, k < n → (ts k).good) ∧ rest.nodes + (sumTo m fun k => (ts k).nodes) + m ≤ K
theorem sumTo_succ (n : Nat) (f : Nat → Nat) : sumTo (n + 1) f = sumTo n f + f n := rfl
theorem ListI.step {c : Rdc} {w wr w1 : World} {j n g gr m K : Nat} {er : Int} {cs : Array Value} {ts : Nat → T} {rest : T} {a0 a1 b0 b1 : Int} {a2 b2 : ByteArray} {a3 b3 : Option Addr} {a4 a5 b4 b5 : Nat} {ns : List ByteArray} {pl : Int} (h : ListI c w wr j er n g gr (m + 1) K cs ts rest a0 a1 a2 a3 a4 a5 ns pl)
 (hB : c.B ≤ w.heap.size) (hb : Below wr.heap.size wr w1) (ht : TP w1 (fun b => (w.heap.size + 1 ≤ b ∧ b ≠ gr) ∨ wr.heap.size ≤ b) (.mk 4 0 ⟨#[46]⟩ 2 fun i => if i = 0 then ts m else rest) (.agg #[.int .i64 b0, .int .i64 b1, .string b2, .slice b3 b4 b5])) :
 ListI c w ((((w1.setCell ⟨gr, 0, none⟩ (.int .i64 b0)).setCell ⟨gr, 1, none⟩ (.int .i64 b1)).setCell ⟨gr, 2, none⟩ (.string b2)).setCell ⟨gr, 3, none⟩ (.slice b3 b4 b5)) j er n g gr m K cs ts (.mk 4 0 ⟨#[46]⟩ 2 fun i => if i = 0 then ts m else rest) b0 b1 b2 b3 b4 b5 ns pl := by
 have hgr := heap_lt h.box
 have hgg := heap_lt h.row
 have hrs := heap_lt h.res
 have hfs := h.fr.size
 have hbox1 := (hb.block gr hgr).trans h.box
 obtain ⟨P0, P1, P2, P3⟩ := box_put4 hbox1 (.int .i64 b0) (.int .i64 b1) (.string b2) (.slice b3 b4 b5) rfl
 have hgr2 := h.hgr
 refine ⟨(P2 g h.hg.2).trans ((hb.block g hgg).trans h.row), fun k hk => ?_, h.hg, h.hgr, P0, (tp_put hbox1 _ _ _ _ ht fun b hb' => ?_).more fun b hb' => ?_, (P2 _ (by omega)).trans ((hb.block _ hrs).trans h.res), (h.rd.below hb).put hbox1 _ _ _ _,
  (h.fr.trans (Fr.of_below hb h.rd.base)).put (by omega) hB hbox1 _ _ _ _, by have := h.hm; omega, fun e => ?_⟩
 ·obtain ⟨v0, v1, v2, v3, h0, h1, h2, h3, ht'⟩ := h.tp k hk
  exact ⟨v0, v1, v2, v3, h0, h1, h2, h3, tp_put hbox1 _ _ _ _ (ht'.below hb) fun b hb' => hb'.2⟩
 ·rcases hb' with hb' | hb'
  ·exact hb'.2
  ·omega
 ·rcases hb' with hb' | hb'
  ·exact hb'
  ·exact ⟨by omega, by omega⟩
 ·obtain ⟨h0, h1, h2⟩ := h.ok e
  have hm := h.hm
  refine ⟨two_good _ (by decide) (h1 m (by omega)) h0, h1, ?_⟩
  rw [two_nodes]
  rw [sumTo_succ] at h2
  omega
theorem ListI.put {c : Rdc} {w wr : World} {j n g gr m K : Nat} {er : Int} {cs : Array Value} {ts : Nat → T} {rest t : T} {a0 a1 b0 b1 : Int} {a2 b2 : ByteArray} {a3 b3 : Option Addr} {a4 a5 b4 b5 : Nat} {ns : List ByteArray} {pl : Int} (h : ListI c w wr j er n g gr m K cs ts rest a0 a1 a2 a3 a4 a5 ns pl)
 (hB : c.B ≤ w.heap.size) (ht : TP wr (fun b => w.heap.size + 1 ≤ b ∧ b ≠ gr) t (.agg #[.int .i64 b0, .int .i64 b1, .string b2, .slice b3 b4 b5])) (K' : Nat) (hok : er = 0 → t.good ∧ t.nodes + (sumTo m fun k => (ts k).nodes) + m ≤ K') :
 ListI c w ((((wr.setCell ⟨gr, 0, none⟩ (.int .i64 b0)).setCell ⟨gr, 1, none⟩ (.int .i64 b1)).setCell ⟨gr, 2, none⟩ (.string b2)).setCell ⟨gr, 3, none⟩ (.slice b3 b4 b5)) j er n g gr m K' cs ts t b0 b1 b2 b3 b4 b5 ns pl := by
 obtain ⟨P0, P1, P2, P3⟩ := box_put4 h.box (.int .i64 b0) (.int .i64 b1) (.string b2) (.slice b3 b4 b5) rfl
 have hgr := h.hgr
 exact ⟨(P2 g h.hg.2).trans h.row, fun k hk => by
  obtain ⟨v0, v1, v2, v3, h0, h1, h2, h3, ht'⟩ := h.tp k hk
  exact ⟨v0, v1, v2, v3, h0, h1, h2, h3, tp_put h.box _ _ _ _ ht' fun b hb' => hb'.2⟩, h.hg, h.hgr, P0, tp_put h.box _ _ _ _ ht fun b hb' => hb'.2, (P2 _ (by omega)).trans h.res, h.rd.put h.box _ _ _ _,
  h.fr.put (by omega) hB h.box _ _ _ _, h.hm, fun e => ⟨(hok e).1, (h.ok e).2.1, (hok e).2⟩⟩
theorem ListI.stand {c : Rdc} {w wr w1 : World} {j n g gr m K j1 : Nat} {er er1 : Int} {cs : Array Value} {ts : Nat → T} {rest : T} {a0 a1 : Int} {a2 : ByteArray} {a3 : Option Addr} {a4 a5 : Nat} {ns ns1 : List ByteArray} {pl pl1 : Int} (h : ListI c w wr j er n g gr m K cs ts rest a0 a1 a2 a3 a4 a5 ns pl)
 (hf : Fr c wr w1) (hr : Rd w1 c j1 ns1 pl1 er1) (he : er1 = 0 → er = 0) : ListI c w w1 j1 er1 n g gr m K cs ts rest a0 a1 a2 a3 a4 a5 ns1 pl1 :=
 ⟨hf.box h.rd h.row (by decide) (by decide), fun k hk => by
  obtain ⟨v0, v1, v2, v3, h0, h1, h2, h3, ht⟩ := h.tp k hk
  exact ⟨v0, v1, v2, v3, h0, h1, h2, h3, ht.fr hf h.rd⟩, h.hg, h.hgr, hf.box h.rd h.box (by decide) (by decide), h.ht.fr hf h.rd, hf.box h.rd h.res (by decide) (by decide), hr, h.fr.trans hf, h.hm, fun e => h.ok (he e)⟩
theorem Sp.must {α β : Type} {er pl er' pl' : Int} {tk : List Tk} {sz i j : Nat} {m : ByteArray} {ns ns' : List ByteArray} {u : β} (h : Sp er pl er' pl' (mustN tk sz m u i ns) (u, j, ns')) (a : α) : Sp er pl er' pl' (mustN tk sz m a i ns) (a, j, ns') := by
 refine ⟨h.1, fun e => ?_⟩
 have h2 := h.2 e
 cases hm : isM tk sz i m with
 | true =>
  rw [show mustN tk sz m u i ns = .ok (u, i + 1, ns) by unfold mustN; rw [hm]; rfl] at h2
  rw [show mustN tk sz m a i ns = .ok (a, i + 1, ns) by unfold mustN; rw [hm]; rfl]
  obtain ⟨e1, e2⟩ := h2
  injection e2 with _ e2
  injection e2 with e2 e3
  exact ⟨e1, by rw [e2, e3]⟩
 | false =>
  rw [show mustN tk sz m u i ns = .error (errA tk sz i 50) by unfold mustN; rw [hm]; rfl] at h2
  rw [show mustN tk sz m a i ns = .error (errA tk sz i 50) by unfold mustN; rw [hm]; rfl]
  exact h2
theorem listT_step {l : List T} {m : Nat} {r : T} (h : m < l.length) : listT (l.drop m) r = .mk 4 0 ⟨#[46]⟩ 2 fun i => if i = 0 then l.getD m .nil else listT (l.drop (m + 1)) r := by
 rw [List.drop_eq_getElem_cons h]
 show twoT dotS l[m] (listT (l.drop (m + 1)) r) = _
 rw [List.getD_eq_getElem?_getD, List.getElem?_eq_getElem h]
 rfl
theorem listP_nil {tk : List Tk} {sz : Nat} {tm : Int → Nat → List ByteArray → PR T} {i : Nat} {ns : List ByteArray} (h : isM tk sz i ⟨#[93]⟩ = true) : listP tk sz tm i ns = .ok (atT nilS, i + 1, ns) := by rw [listP, if_pos h]
theorem listP_row {tk : List Tk} {sz : Nat} {tm : Int → Nat → List ByteArray → PR T} {i : Nat} {ns : List ByteArray} (h : isM tk sz i ⟨#[93]⟩ = false) : listP tk sz tm i ns = (rowP tk sz tm i ns).andThen fun l j ns1 => if isM tk sz j ⟨#[124]⟩ then (tm 999 (j + 1) ns1).andThen fun r j2 ns2 => mustN tk sz ⟨#[93]⟩ (listT l r) j2 ns2 else mustN tk sz ⟨#[93]⟩ (listT l (atT nilS)) j ns1 := by
 rw [listP, if_neg (by rw [h]; decide)]
set_option maxRecDepth 100000 in
set_option maxHeartbeats 8000000 in
theorem list_any {c : Rdc} (D : Nat) {tm : Int → Nat → List ByteArray → PR T} (IH : TermC c ((D : Int) + 1) tm) (hD : D ≤ 64) (w : World) (i0 : Nat) (ns : List ByteArray) (pl er : Int) (h : Rd w c (i0 + 1) ns pl er) :
 Calls Tryz.prog 71 #[.pointer (some ⟨c.R, 0, none⟩), .int .i64 (D : Int)] w fun e w' => ∃ v, e = .returned v ∧ RetT c w i0 (i0 + 1) pl er (listP c.tk c.s.size tm (i0 + 1) ns) v w' := by
 have hB := h.base
 have hBR := h.1.BR
 have hRw := h.lt
 have H := Lib.hid h
 clear h
 go_enter Tryz.func71, Tryz.ntmps71
 go_wp2_with fail
 refine (mark_any _ _ (H.out.alloc _)).mono ?_
 rintro e w1 ⟨⟨b, rfl, hbm, hM⟩, h1⟩
 have H1 := Lib.hid ((H.out.alloc _).below h1)
 have F1 := Lib.hid (Fr.of_below (((Below.refl w.heap.size w).alloc (Nat.le_refl _) _).trans (h1.mono (by simp))) hB)
 have hres1 := Lib.hid ((h1.block w.heap.size (by simp)).trans (heap_alloc_new w _))
 have hs1 : w.heap.size + 1 ≤ w1.heap.size := by have := h1.size; simpa using this
 clear h1
 cases b with
 | true =>
  have hlt := nx_lt H1.out (by rw [hbm rfl]; decide)
  clear hbm
  obtain ⟨r2, r5, rf⟩ := H1.out.cells
  obtain ⟨hup, htn⟩ := H1.out.up
  have H2 := Lib.hid (H1.out.next hlt)
  have F2 := Lib.hid (F1.out.trans (Fr.setR hBR 2 (.int .i64 (((i0 + 1 : Nat) : Int) + 1))))
  have hres2 := Lib.hid ((Below.heap_setCell w1 ⟨c.R, 2, none⟩ (.int .i64 (((i0 + 1 : Nat) : Int) + 1)) w.heap.size (by show w.heap.size ≠ c.R; omega)).trans hres1.out)
  go_wp2_with fail
  refine (atom_any _ _).mono ?_
  rintro e w3 ⟨rfl, h3⟩
  have hres3 := Lib.hid ((h3.block _ (heap_lt hres2.out)).trans hres2.out)
  have H3 := Lib.hid (H2.out.below h3)
  have F3 := Lib.hid (F2.out.trans (Fr.of_below h3 H2.out.base))
  have bf : ∀ j, w3.frozen? ⟨w.heap.size, j, none⟩ = false := fun j => by simp [World.frozen?, hres3.out]
  obtain ⟨x0, x1, x2, x3⟩ := box4t hres3.out
  clear h3 r2 r5 rf
  go_wp2_with fail
  obtain ⟨p0, p1, p2, p3⟩ := box4t (box_put4 hres3.out (.int .i64 3) (.int .i64 0) (.string ⟨#[91, 93]⟩) (.slice none 0 0) rfl).1
  refine bodyPost_ret (v := .agg #[.int .i64 3, .int .i64 0, .string ⟨#[91, 93]⟩, .slice none 0 0]) (by simp [results, go_sem, p0, p1, p2, p3]) rfl ?_
  exact ⟨_, rfl, ret_box H3.out F3.out hB hres3.out (Nat.le_refl _) (TP.leaf _ _ 3 0 _) (by omega) (fun e => ⟨e, atom_good _ (by decide), by rw [leaf_nodes]; omega⟩) (Lib.hid (by rw [listP_nil hM.out]; exact Sp.ok _ _ _))⟩
 | false =>
  clear hbm
  go_wp2_with fail
  refine (row_any D IH hD _ _ _ _ _ H1.out).mono ?_
  rintro e w2 ⟨v, rfl, j, er2, l, g, cap, cs, ns2, pl2, hR, hSR⟩
  obtain ⟨n, hn⟩ : ∃ n, n = l.length := ⟨_, rfl⟩
  obtain ⟨ts, hts⟩ : ∃ ts, ts = fun k => l.getD k .nil := ⟨_, rfl⟩
  rw [← hn, ← hts] at hR
  have HNL := Lib.hid hn
  have HTS := Lib.hid hts
  clear hn hts
  obtain rfl := hR.hv
  have hres2 := Lib.hid (hR.fr.box H1.out hres1.out (by decide) (by decide))
  have RR := Lib.hid hR
  clear hR
  go_wp2_with fail
  refine (atom_any _ _).mono ?_
  rintro e w3 ⟨rfl, h3⟩
  have R3 := Lib.hid (RR.out.stand (Fr.of_below h3 RR.out.rd.base) (RR.out.rd.below h3) (Nat.le_refl _) id)
  have hres3 := Lib.hid ((h3.block _ (heap_lt hres2.out)).trans hres2.out)
  clear h3
  have hs3 := R3.out.fr.size
  have hgl := heap_lt R3.out.blk
  have L3 : ListI c w (w3.alloc (Obj.cells #[.int .i64 3, .int .i64 0, .string ⟨#[91, 93]⟩, .slice none 0 0] 39)) j er2 n g w3.heap.size n (1 + (sumTo n fun k => (ts k).nodes) + n) cs ts (.mk 3 0 ⟨#[91, 93]⟩ 0 fun _ => .nil) 3 0 ⟨#[91, 93]⟩ none 0 0 ns2 pl2 :=
   ⟨(Below.heap_alloc _ _ _ hgl).trans R3.out.blk, fun k hk => by
     obtain ⟨v0, v1, v2, v3, h0, h1, h2, h3, ht⟩ := R3.out.tp k hk
     exact ⟨v0, v1, v2, v3, h0, h1, h2, h3, ht.keep fun b cs' f' hS hb' => ⟨(Below.heap_alloc _ _ _ (heap_lt hb')).trans hb', by omega, by have := heap_lt hb'; omega⟩⟩,
     ⟨by have := R3.out.hg; omega, by omega⟩, by omega, heap_alloc_new _ _, TP.leaf _ _ 3 0 _, (Below.heap_alloc _ _ _ (heap_lt hres3.out)).trans hres3.out, R3.out.rd.alloc _,
     (F1.out.trans R3.out.fr).trans (Fr.of_below ((Below.refl _ _).alloc (Nat.le_refl _) _) R3.out.rd.base), Nat.le_refl _, fun e => ⟨atom_good _ (by decide), (R3.out.ok e).2.1, by rw [leaf_nodes]; omega⟩⟩
  have L4 := Lib.hid L3
  clear L3
  obtain ⟨r2, r5, rf⟩ := L4.out.rd.cells
  by_cases he2 : er2 = 0
  ·subst he2
   go_wp2_with fail
   refine (mark_any _ _ L4.out.rd).mono ?_
   rintro e w5 ⟨⟨b, rfl, hbm, hM2⟩, h5⟩
   have L5 := Lib.hid (L4.out.stand (Fr.of_below h5 L4.out.rd.base) (L4.out.rd.below h5) id)
   clear h5 r2 r5 rf
   cases b with
   | false =>
    clear hbm
    have HK := Lib.hid (show er = 0 ∧ i0 + (1 + (sumTo n fun k => (ts k).nodes) + n) ≤ j + 1 by
     obtain ⟨g0, _, g2⟩ := R3.out.ok rfl
     have := R3.out.hn
     exact ⟨g0, by omega⟩)
    go_wp2_with fail
    refine (rmust_any _ _ L5.out.rd).mono ?_
    rintro e w6 ⟨rfl, ⟨j6, er6, pl6, h6, hj6, he6, hs6⟩, f6⟩
    have L6 := Lib.hid (L5.out.stand f6 h6 fun e => (he6 e).1)
    have HK6 := Lib.hid (show er6 = 0 → er = 0 ∧ i0 + (1 + (sumTo n fun k => (ts k).nodes) + n) ≤ j6 from fun e => by
     obtain ⟨e1, e2⟩ := he6 e
     obtain ⟨g0, g1⟩ := HK.out
     exact ⟨g0, by omega⟩)
    have hlo := R3.out.lo
    have hn0 := R3.out.hn
    have hfw := R3.out.few
    have hu6 := h6.up
    have HS6 := Lib.hid (show Sp er pl er6 pl6 (listP c.tk c.s.size tm (i0 + 1) ns) (listT l (atT nilS), j6, ns2) by
     rw [listP_row hM.out]
     refine hSR.out.bind ?_
     dsimp only
     rw [hM2.out]
     exact hs6.out.must _)
    clear h6 f6 he6 hs6
    go_wp2_with fail
    go_loopw [7] (fun iv wr => ∃ (m : Nat) (rst : T) (b0 b1 : Int) (b2 : ByteArray) (b3 : Option Addr) (b4 b5 : Nat), iv = .int .i64 ((m : Int) - 1) ∧ ListI c w wr j6 er6 n g w3.heap.size m (1 + (sumTo n fun k => (ts k).nodes) + n) cs ts rst b0 b1 b2 b3 b4 b5 ns2 pl6 ∧ Hid (rst = listT (l.drop m) (atT nilS))) (fun iv _ => (intOf iv + 1).toNat)
    case atStart => exact ⟨n, _, _, _, _, _, _, _, by go_num, L6.out, Lib.hid (by rw [HNL.out, List.drop_length]; rfl)⟩
    case round =>
     clear L6
     obtain ⟨m, rst, b0, b1, b2, b3, b4, b5, rfl, hl, hrst⟩ := hrel
     have LL := Lib.hid hl
     have hmn := hl.hm
     obtain ⟨y0, y1, y2, y3⟩ := box4t hl.box
     have yf : ∀ j, wr.frozen? ⟨w3.heap.size, j, none⟩ = false := fun j => by simp [World.frozen?, hl.box]
     have bf : ∀ j, wr.frozen? ⟨w.heap.size, j, none⟩ = false := fun j => by simp [World.frozen?, hl.res]
     have hgr1 := heap_lt hl.box
     have hg1 := heap_lt hl.row
     obtain ⟨x0, x1, x2, x3⟩ := box4t hl.res
     clear hl
     by_cases hm : m = 0
     ·subst hm
      go_wp2_with fail
      obtain ⟨p0, p1, p2, p3⟩ := box4t (box_put4 LL.out.res (.int .i64 b0) (.int .i64 b1) (.string b2) (.slice b3 b4 b5) rfl).1
      refine bodyPost_ret (v := .agg #[.int .i64 b0, .int .i64 b1, .string b2, .slice b3 b4 b5]) (by simp [results, go_sem, p0, p1, p2, p3]) rfl ?_
      exact ⟨_, rfl, ret_box LL.out.rd LL.out.fr hB LL.out.res (Nat.le_refl _) (LL.out.ht.more fun b hb => ⟨by omega, by omega⟩) (by omega) (fun e => by
       obtain ⟨g0, g1⟩ := HK6.out e
       obtain ⟨q0, _, q2⟩ := LL.out.ok e
       simp only [sumTo] at q2
       exact ⟨g0, q0, by omega⟩) (Lib.hid (by rw [hrst.out, List.drop_zero]; exact HS6.out))⟩
     ·obtain ⟨m, rfl⟩ : ∃ k, m = k + 1 := ⟨m - 1, by omega⟩
      have hm1 : ((m + 1 : Nat) : Int) - 1 = (m : Int) := by omega
      rw [hm1]
      have hm2 : (m : Int) < (n : Int) := by omega
      obtain ⟨v0, v1, v2, v3, c0, c1, c2, c3, ht⟩ := LL.out.tp m (by omega)
      obtain ⟨k0, k1, k2, A0, m0, cc0, he⟩ := ht.agg
      injection he with he
      simp only [Array.mk.injEq, List.cons.injEq, and_true] at he
      obtain ⟨rfl, rfl, rfl, rfl⟩ := he
      have hr := fun (j : Nat) => cell_of_row wr g j _ _ _ LL.out.row
      have z0 := (hr (4 * m)).trans c0
      have z1 := (hr (4 * m + 1)).trans c1
      have z2 := (hr (4 * m + 2)).trans c2
      have z3 := (hr (4 * m + 3)).trans c3
      rw [Nat.mul_comm 4 m] at z0 z1 z2 z3
      have HT := Lib.hid ht
      clear hr ht c0 c1 c2 c3 hm1
      go_wp2_with fail
      have B9 := (Below.refl wr.heap.size wr).drew
      have LD := Lib.hid (LL.out.stand (Fr.of_below B9 LL.out.rd.base) (LL.out.rd.below B9) id)
      have HTD := Lib.hid (HT.out.below B9)
      clear B9
      go_region_with (go_at_call 53; refine (two_tp ⟨#[46]⟩ (fun b => w.heap.size + 1 ≤ b ∧ b ≠ w3.heap.size) (ts m) rst _ _ _ HTD.out LD.out.ht).mono ?_; rintro e w7 ⟨⟨v7, rfl, hv7⟩, h7⟩; have hv8 := hv7; obtain ⟨A7, c7, rfl, _⟩ := hv8; have hbx7 := (h7.block w3.heap.size hgr1).trans LD.out.box; have yf7 : ∀ j, w7.frozen? ⟨w3.heap.size, j, none⟩ = false := (fun j => by simp [World.frozen?, hbx7]); obtain ⟨q0, q1, q2, q3⟩ := box4t hbx7)
      all_goals
       have SS := Lib.hid (LD.out.step hB h7 hv7)
       clear h7 hv7
       go_wp2_with fail
       go_roundw
       ·exact ⟨m, _, _, _, _, _, _, _, rfl, SS.out, Lib.hid (by rw [listT_step (by have := HNL.out; omega), hrst.out, HTS.out])⟩
       ·simp [intOf]
   | true =>
    have hlt := nx_lt L5.out.rd (by rw [hbm rfl]; decide)
    clear hbm
    obtain ⟨r2, r5, rf⟩ := L5.out.rd.cells
    obtain ⟨hup, htn⟩ := L5.out.rd.up
    have M6 := Lib.hid (L5.out.stand (Fr.setR hBR 2 (.int .i64 ((j : Int) + 1))) (L5.out.rd.next hlt) id)
    go_wp2_with fail
    refine (IH 999 _ _ _ _ _ M6.out.rd).mono ?_
    rintro e w7 ⟨v7, rfl, j7, er7, t7, ns7, pl7, h7, f7, hj7, ht7, hok7, hs7⟩
    obtain ⟨k0, k1, k2, A0, m0, c0, rfl⟩ := ht7.agg
    have M7 := Lib.hid (M6.out.stand f7 h7 fun _ => rfl)
    have HT7 := Lib.hid (ht7.more (S' := fun b => w.heap.size + 1 ≤ b ∧ b ≠ w3.heap.size) fun b hb => by
     have := heap_lt M6.out.box
     have := M6.out.hgr
     exact ⟨by omega, by omega⟩)
    have L8 := Lib.hid (M7.out.put hB HT7.out (t7.nodes + (sumTo n fun k => (ts k).nodes) + n) fun e => ⟨(hok7 e).2.1, Nat.le_refl _⟩)
    have HK := Lib.hid (show er7 = 0 → er = 0 ∧ i0 + (t7.nodes + (sumTo n fun k => (ts k).nodes) + n) ≤ j7 + 1 from fun e => by
     obtain ⟨g0, _, g2⟩ := R3.out.ok rfl
     obtain ⟨_, _, q2⟩ := hok7 e
     have := R3.out.hn
     exact ⟨g0, by omega⟩)
    have hj8 : j + 1 ≤ j7 := hj7
    have yf7 : ∀ j, w7.frozen? ⟨w3.heap.size, j, none⟩ = false := fun j => by simp [World.frozen?, M7.out.box]
    obtain ⟨z0, z1, z2, z3⟩ := box4t M7.out.box
    clear h7 f7 ht7 hok7 r2 r5 rf
    go_wp2_with fail
    refine (rmust_any _ _ L8.out.rd).mono ?_
    rintro e w6 ⟨rfl, ⟨j6, er6, pl6, h6, hj6, he6, hs6⟩, f6⟩
    have L6 := Lib.hid (L8.out.stand f6 h6 fun e => (he6 e).1)
    have HK6 := Lib.hid (show er6 = 0 → er = 0 ∧ i0 + (t7.nodes + (sumTo n fun k => (ts k).nodes) + n) ≤ j6 from fun e => by
     obtain ⟨e1, e2⟩ := he6 e
     obtain ⟨g0, g1⟩ := HK.out e1
     exact ⟨g0, by omega⟩)
    have hlo := R3.out.lo
    have hn0 := R3.out.hn
    have hfw := R3.out.few
    have hu6 := h6.up
    have HS6 := Lib.hid (show Sp er pl er6 pl6 (listP c.tk c.s.size tm (i0 + 1) ns) (listT l t7, j6, ns7) by
     rw [listP_row hM.out]
     refine hSR.out.bind ?_
     dsimp only
     rw [hM2.out]
     exact hs7.out.bind (hs6.out.must _))
    clear h6 f6 he6 hs6
    go_wp2_with fail
    go_loopw [7] (fun iv wr => ∃ (m : Nat) (rst : T) (b0 b1 : Int) (b2 : ByteArray) (b3 : Option Addr) (b4 b5 : Nat), iv = .int .i64 ((m : Int) - 1) ∧ ListI c w wr j6 er6 n g w3.heap.size m (t7.nodes + (sumTo n fun k => (ts k).nodes) + n) cs ts rst b0 b1 b2 b3 b4 b5 ns7 pl6 ∧ Hid (rst = listT (l.drop m) t7)) (fun iv _ => (intOf iv + 1).toNat)
    case atStart => exact ⟨n, _, _, _, _, _, _, _, by go_num, L6.out, Lib.hid (by rw [HNL.out, List.drop_length]; rfl)⟩
    case round =>
     clear L6
     obtain ⟨m, rst, b0, b1, b2, b3, b4, b5, rfl, hl, hrst⟩ := hrel
     have LL := Lib.hid hl
     have hmn := hl.hm
     obtain ⟨y0, y1, y2, y3⟩ := box4t hl.box
     have yf : ∀ j, wr.frozen? ⟨w3.heap.size, j, none⟩ = false := fun j => by simp [World.frozen?, hl.box]
     have bf : ∀ j, wr.frozen? ⟨w.heap.size, j, none⟩ = false := fun j => by simp [World.frozen?, hl.res]
     have hgr1 := heap_lt hl.box
     have hg1 := heap_lt hl.row
     obtain ⟨x0, x1, x2, x3⟩ := box4t hl.res
     clear hl
     by_cases hm : m = 0
     ·subst hm
      go_wp2_with fail
      obtain ⟨p0, p1, p2, p3⟩ := box4t (box_put4 LL.out.res (.int .i64 b0) (.int .i64 b1) (.string b2) (.slice b3 b4 b5) rfl).1
      refine bodyPost_ret (v := .agg #[.int .i64 b0, .int .i64 b1, .string b2, .slice b3 b4 b5]) (by simp [results, go_sem, p0, p1, p2, p3]) rfl ?_
      exact ⟨_, rfl, ret_box LL.out.rd LL.out.fr hB LL.out.res (Nat.le_refl _) (LL.out.ht.more fun b hb => ⟨by omega, by omega⟩) (by omega) (fun e => by
       obtain ⟨g0, g1⟩ := HK6.out e
       obtain ⟨q0, _, q2⟩ := LL.out.ok e
       simp only [sumTo] at q2
       exact ⟨g0, q0, by omega⟩) (Lib.hid (by rw [hrst.out, List.drop_zero]; exact HS6.out))⟩
     ·obtain ⟨m, rfl⟩ : ∃ k, m = k + 1 := ⟨m - 1, by omega⟩
      have hm1 : ((m + 1 : Nat) : Int) - 1 = (m : Int) := by omega
      rw [hm1]
      have hm2 : (m : Int) < (n : Int) := by omega
      obtain ⟨v0, v1, v2, v3, c0, c1, c2, c3, ht⟩ := LL.out.tp m (by omega)
      obtain ⟨k0, k1, k2, A0, m0, cc0, he⟩ := ht.agg
      injection he with he
      simp only [Array.mk.injEq, List.cons.injEq, and_true] at he
      obtain ⟨rfl, rfl, rfl, rfl⟩ := he
      have hr := fun (j : Nat) => cell_of_row wr g j _ _ _ LL.out.row
      have z0 := (hr (4 * m)).trans c0
      have z1 := (hr (4 * m + 1)).trans c1
      have z2 := (hr (4 * m + 2)).trans c2
      have z3 := (hr (4 * m + 3)).trans c3
      rw [Nat.mul_comm 4 m] at z0 z1 z2 z3
      have HT := Lib.hid ht
      clear hr ht c0 c1 c2 c3 hm1
      go_wp2_with fail
      have B9 := (Below.refl wr.heap.size wr).drew
      have LD := Lib.hid (LL.out.stand (Fr.of_below B9 LL.out.rd.base) (LL.out.rd.below B9) id)
      have HTD := Lib.hid (HT.out.below B9)
      clear B9
      go_region_with (go_at_call 53; refine (two_tp ⟨#[46]⟩ (fun b => w.heap.size + 1 ≤ b ∧ b ≠ w3.heap.size) (ts m) rst _ _ _ HTD.out LD.out.ht).mono ?_; rintro e w7 ⟨⟨v7, rfl, hv7⟩, h7⟩; have hv8 := hv7; obtain ⟨A7, c7, rfl, _⟩ := hv8; have hbx7 := (h7.block w3.heap.size hgr1).trans LD.out.box; have yf7 : ∀ j, w7.frozen? ⟨w3.heap.size, j, none⟩ = false := (fun j => by simp [World.frozen?, hbx7]); obtain ⟨q0, q1, q2, q3⟩ := box4t hbx7)
      all_goals
       have SS := Lib.hid (LD.out.step hB h7 hv7)
       clear h7 hv7
       go_wp2_with fail
       go_roundw
       ·exact ⟨m, _, _, _, _, _, _, _, rfl, SS.out, Lib.hid (by rw [listT_step (by have := HNL.out; omega), hrst.out, HTS.out])⟩
       ·simp [intOf]
  ·have he2' : (er2 == 0) = false := by simpa using he2
   have HK := Lib.hid he2
   go_wp2_with fail
   refine (rmust_any _ _ L4.out.rd).mono ?_
   rintro e w6 ⟨rfl, ⟨j6, er6, pl6, h6, hj6, he6, hs6⟩, f6⟩
   have L6 := Lib.hid (L4.out.stand f6 h6 fun e => (he6 e).1)
   have HK6 := Lib.hid (show er6 = 0 → er = 0 ∧ i0 + (1 + (sumTo n fun k => (ts k).nodes) + n) ≤ j6 from fun e => by
    obtain ⟨e1, e2⟩ := he6 e
    exact absurd e1 HK.out)
   have hlo := R3.out.lo
   have hn0 := R3.out.hn
   have hfw := R3.out.few
   have hu6 := h6.up
   have HS6 := Lib.hid (show Sp er pl er6 pl6 (listP c.tk c.s.size tm (i0 + 1) ns) (listT l (atT nilS), j6, ns2) by
    rw [listP_row hM.out]
    exact hSR.out.bind ⟨hs6.out.1, fun e => absurd e HK.out⟩)
   clear h6 f6 he6 hs6
   go_wp2_with fail
   go_loopw [7] (fun iv wr => ∃ (m : Nat) (rst : T) (b0 b1 : Int) (b2 : ByteArray) (b3 : Option Addr) (b4 b5 : Nat), iv = .int .i64 ((m : Int) - 1) ∧ ListI c w wr j6 er6 n g w3.heap.size m (1 + (sumTo n fun k => (ts k).nodes) + n) cs ts rst b0 b1 b2 b3 b4 b5 ns2 pl6 ∧ Hid (rst = listT (l.drop m) (atT nilS))) (fun iv _ => (intOf iv + 1).toNat)
   case atStart => exact ⟨n, _, _, _, _, _, _, _, by go_num, L6.out, Lib.hid (by rw [HNL.out, List.drop_length]; rfl)⟩
   case round =>
    clear L6
    obtain ⟨m, rst, b0, b1, b2, b3, b4, b5, rfl, hl, hrst⟩ := hrel
    have LL := Lib.hid hl
    have hmn := hl.hm
    obtain ⟨y0, y1, y2, y3⟩ := box4t hl.box
    have yf : ∀ j, wr.frozen? ⟨w3.heap.size, j, none⟩ = false := fun j => by simp [World.frozen?, hl.box]
    have bf : ∀ j, wr.frozen? ⟨w.heap.size, j, none⟩ = false := fun j => by simp [World.frozen?, hl.res]
    have hgr1 := heap_lt hl.box
    have hg1 := heap_lt hl.row
    obtain ⟨x0, x1, x2, x3⟩ := box4t hl.res
    clear hl
    by_cases hm : m = 0
    ·subst hm
     go_wp2_with fail
     obtain ⟨p0, p1, p2, p3⟩ := box4t (box_put4 LL.out.res (.int .i64 b0) (.int .i64 b1) (.string b2) (.slice b3 b4 b5) rfl).1
     refine bodyPost_ret (v := .agg #[.int .i64 b0, .int .i64 b1, .string b2, .slice b3 b4 b5]) (by simp [results, go_sem, p0, p1, p2, p3]) rfl ?_
     exact ⟨_, rfl, ret_box LL.out.rd LL.out.fr hB LL.out.res (Nat.le_refl _) (LL.out.ht.more fun b hb => ⟨by omega, by omega⟩) (by omega) (fun e => by
      obtain ⟨g0, g1⟩ := HK6.out e
      obtain ⟨q0, _, q2⟩ := LL.out.ok e
      simp only [sumTo] at q2
      exact ⟨g0, q0, by omega⟩) (Lib.hid (by rw [hrst.out, List.drop_zero]; exact HS6.out))⟩
    ·obtain ⟨m, rfl⟩ : ∃ k, m = k + 1 := ⟨m - 1, by omega⟩
     have hm1 : ((m + 1 : Nat) : Int) - 1 = (m : Int) := by omega
     rw [hm1]
     have hm2 : (m : Int) < (n : Int) := by omega
     obtain ⟨v0, v1, v2, v3, c0, c1, c2, c3, ht⟩ := LL.out.tp m (by omega)
     obtain ⟨k0, k1, k2, A0, m0, cc0, he⟩ := ht.agg
     injection he with he
     simp only [Array.mk.injEq, List.cons.injEq, and_true] at he
     obtain ⟨rfl, rfl, rfl, rfl⟩ := he
     have hr := fun (j : Nat) => cell_of_row wr g j _ _ _ LL.out.row
     have z0 := (hr (4 * m)).trans c0
     have z1 := (hr (4 * m + 1)).trans c1
     have z2 := (hr (4 * m + 2)).trans c2
     have z3 := (hr (4 * m + 3)).trans c3
     rw [Nat.mul_comm 4 m] at z0 z1 z2 z3
     have HT := Lib.hid ht
     clear hr ht c0 c1 c2 c3 hm1
     go_wp2_with fail
     have B9 := (Below.refl wr.heap.size wr).drew
     have LD := Lib.hid (LL.out.stand (Fr.of_below B9 LL.out.rd.base) (LL.out.rd.below B9) id)
     have HTD := Lib.hid (HT.out.below B9)
     clear B9
     go_region_with (go_at_call 53; refine (two_tp ⟨#[46]⟩ (fun b => w.heap.size + 1 ≤ b ∧ b ≠ w3.heap.size) (ts m) rst _ _ _ HTD.out LD.out.ht).mono ?_; rintro e w7 ⟨⟨v7, rfl, hv7⟩, h7⟩; have hv8 := hv7; obtain ⟨A7, c7, rfl, _⟩ := hv8; have hbx7 := (h7.block w3.heap.size hgr1).trans LD.out.box; have yf7 : ∀ j, w7.frozen? ⟨w3.heap.size, j, none⟩ = false := (fun j => by simp [World.frozen?, hbx7]); obtain ⟨q0, q1, q2, q3⟩ := box4t hbx7)
     all_goals
      have SS := Lib.hid (LD.out.step hB h7 hv7)
      clear h7 hv7
      go_wp2_with fail
      go_roundw
      ·exact ⟨m, _, _, _, _, _, _, _, rfl, SS.out, Lib.hid (by rw [listT_step (by have := HNL.out; omega), hrst.out, HTS.out])⟩
      ·simp [intOf]
end Go.Proofs.YtibcpdmeigdgpaaGreatDoor
