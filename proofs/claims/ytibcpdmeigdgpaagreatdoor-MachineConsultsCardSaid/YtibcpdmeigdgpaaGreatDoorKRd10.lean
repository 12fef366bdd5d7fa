/- The reference's parser: what begins with an atom. -/
import Derived.Test.YtibcpdmeigdgpaaGreatDoorKRd9
import Derived.Deep.RegionHeld3
import Derived.Deep.DeepCutAuto
import Derived.Deep.CutRange
import Derived.Deep.CutBlock
namespace Go.Proofs.YtibcpdmeigdgpaaGreatDoor
open Go.RowKit
theorem cmp_good (s : ByteArray) (h : nameOk s) (n : Nat) (hn : 0 < n) (ts : Nat → T) (ht : ∀ k, k < n → (ts k).good) : (T.mk 4 0 s n ts).good := ⟨.inr (.inr (.inr ⟨rfl, rfl, h, hn⟩)), ht⟩
def RetP (c : Rdc) (w : World) (i0 i : Nat) (pl er : Int) (res : PR (T × Int)) (v : Value) (p : Int) (w' : World) : Prop :=
 ∃ j er' t ns' pl', Rd w' c j ns' pl' er' ∧ Fr c w w' ∧ i ≤ j ∧ TP w' (fun b => w.heap.size ≤ b) t v ∧ (er' = 0 → er = 0 ∧ t.good ∧ i0 + t.nodes ≤ j) ∧ Hid (Sp er pl er' pl' res ((t, p), j, ns'))
theorem ret_boxP {c : Rdc} {w wk : World} {i0 i j : Nat} {ns' : List ByteArray} {pl pl' er er' p : Int} {res : PR (T × Int)} {t : T} {g : Nat} {m : Nat × Nat} {u0 u1 u2 u3 x0 x1 x2 x3 : Value} (H : Rd wk c j ns' pl' er') (F : Fr c w wk) (hB : c.B ≤ w.heap.size)
 (hbx : wk.heap[g]? = some (.cells #[u0, u1, u2, u3] 39 m)) (hg : w.heap.size ≤ g) (ht : TP wk (fun b => w.heap.size ≤ b ∧ b ≠ g) t (.agg #[x0, x1, x2, x3])) (hj : i ≤ j) (hok : er' = 0 → er = 0 ∧ t.good ∧ i0 + t.nodes ≤ j) (hsp : Hid (Sp er pl er' pl' res ((t, p), j, ns'))) :
 RetP c w i0 i pl er res (.agg #[x0, x1, x2, x3]) p ((((wk.setCell ⟨g, 0, none⟩ x0).setCell ⟨g, 1, none⟩ x1).setCell ⟨g, 2, none⟩ x2).setCell ⟨g, 3, none⟩ x3) :=
 ⟨j, er', t, ns', pl', H.put hbx _ _ _ _, F.put hg hB hbx _ _ _ _, hj, (tp_put hbx _ _ _ _ ht fun _ hb => hb.2).more fun _ hb => hb.1, hok, hsp⟩
section
variable {tk : List Tk} {sz : Nat} {tm : Int → Nat → List ByteArray → PR T} {y x : Tk} {most : Int} {i : Nat} {ns : List ByteArray}
theorem named_row (hx : nxT tk sz i = x) (h4 : x.k = 4) : namedP tk sz tm y most i ns = (rowP tk sz tm (i + 1) ns).andThen fun l j ns1 => mustN tk sz ⟨#[41]⟩ (cmpT y.t l, 0) j ns1 := by
 unfold namedP; dsimp only; rw [hx, if_pos h4]
theorem named_int (hx : nxT tk sz i = x) (h4 : x.k ≠ 4) (h : y.t.toList = [45] ∧ x.k = 3 ∧ x.a = y.b) : namedP tk sz tm y most i ns = (intP x true (i + 1) ns).andThen fun r j ns1 => .ok ((r, 0), j, ns1) := by
 unfold namedP; dsimp only; rw [hx, if_neg h4, if_pos h]
theorem named_none (hx : nxT tk sz i = x) (h4 : x.k ≠ 4) (h : ¬ (y.t.toList = [45] ∧ x.k = 3 ∧ x.a = y.b)) (ho : opPre y.t = none) : namedP tk sz tm y most i ns = .ok ((atT y.t, 0), i, ns) := by
 unfold namedP; dsimp only; rw [hx, if_neg h4, if_neg h, ho]
theorem named_no {p m : Int} (hx : nxT tk sz i = x) (h4 : x.k ≠ 4) (h : ¬ (y.t.toList = [45] ∧ x.k = 3 ∧ x.a = y.b)) (ho : opPre y.t = some (p, m)) (hn : ¬ (p ≤ most ∧ endsP tk sz i = false)) : namedP tk sz tm y most i ns = .ok ((atT y.t, 0), i, ns) := by
 unfold namedP; dsimp only; rw [hx, if_neg h4, if_neg h, ho]; exact if_neg hn
theorem named_op {p m : Int} (hx : nxT tk sz i = x) (h4 : x.k ≠ 4) (h : ¬ (y.t.toList = [45] ∧ x.k = 3 ∧ x.a = y.b)) (ho : opPre y.t = some (p, m)) (hn : p ≤ most ∧ endsP tk sz i = false) : namedP tk sz tm y most i ns = (tm m i ns).andThen (fun r j ns1 => .ok ((oneT y.t r, p), j, ns1)) := by
 unfold namedP; dsimp only; rw [hx, if_neg h4, if_neg h, ho]; exact if_pos hn
end
set_option maxRecDepth 100000 in
set_option maxHeartbeats 8000000 in
theorem named_rd {c : Rdc} (D : Nat) {tm : Int → Nat → List ByteArray → PR T} (IH : TermC c ((D : Int) + 1) tm) (hD : D ≤ 64) (k : Int) (tx : ByteArray) (a b : Nat) (most : Int) (w : World) (i0 i : Nat) (hi0 : i0 + 1 ≤ i) (ns : List ByteArray) (pl er : Int) (h : Rd w c i ns pl er) (htx : nameOk tx) :
 Calls Tryz.prog 74 #[.pointer (some ⟨c.R, 0, none⟩), .agg #[.int .i64 k, .string tx, .int .i64 (a : Int), .int .i64 (b : Int)], .int .i64 most, .int .i64 (D : Int)] w fun e w' =>
  ∃ v p, e = .returned (.tuple #[v, .int .i64 p]) ∧ RetP c w i0 i pl er (namedP c.tk c.s.size tm ⟨k, tx, a, b⟩ most i ns) v p w' := by
 have hB := h.base
 have hBR := h.1.BR
 have hRw := h.lt
 have hxs := nx_size h
 have hxl : (nx c i).k ≠ 0 → i < c.tn := fun e => nx_lt h e
 have H := Lib.hid h
 clear h
 go_enter Tryz.func74, Tryz.ntmps74
 have B2 := Lib.hid (((Below.refl w.heap.size w).alloc (Nat.le_refl _) (Obj.cells #[.int .i64 k, .string tx, .int .i64 (a : Int), .int .i64 (b : Int)] 83)).alloc (by simp) (Obj.cells #[.int .i64 0, .int .i64 0, .string ⟨#[]⟩, .slice none 0 0] 39))
 have hT2 := Lib.hid ((Below.heap_alloc (w.alloc (Obj.cells #[.int .i64 k, .string tx, .int .i64 (a : Int), .int .i64 (b : Int)] 83)) (Obj.cells #[.int .i64 0, .int .i64 0, .string ⟨#[]⟩, .slice none 0 0] 39) w.heap.size (by simp)).trans (heap_alloc_new w _))
 have hE2 := Lib.hid (show ((w.alloc (Obj.cells #[.int .i64 k, .string tx, .int .i64 (a : Int), .int .i64 (b : Int)] 83)).alloc (Obj.cells #[.int .i64 0, .int .i64 0, .string ⟨#[]⟩, .slice none 0 0] 39)).heap[w.heap.size + 1]? = _ from (congrArg _ (by simp)).trans (heap_alloc_new _ _))
 have H2 := Lib.hid (H.out.below B2.out)
 go_wp2_with fail
 refine (next_any _ H2.out).mono ?_
 rintro e w3 ⟨rfl, h3⟩
 have HX0 := Lib.hid (show nxT c.tk c.s.size i = nx c i from rfl)
 obtain ⟨x, hx0⟩ : ∃ x, x = nx c i := ⟨_, rfl⟩
 rw [← hx0] at HX0 hxs hxl
 rw [← hx0]
 have HX := Lib.hid HX0.out
 clear hx0 HX0
 have B3 := Lib.hid (B2.out.trans (h3.mono (by simp; omega)))
 have H3 := Lib.hid (H.out.below B3.out)
 have hs3 : w.heap.size + 2 ≤ w3.heap.size := by have := h3.size; simp at this; omega
 have hT3 := Lib.hid ((h3.block _ (heap_lt hT2.out)).trans hT2.out)
 have hE3 := Lib.hid ((h3.block _ (heap_lt hE2.out)).trans hE2.out)
 clear h3
 obtain ⟨q0, q1, q2, q3⟩ := box4t hT3.out
 obtain ⟨r2, r5, rf⟩ := H3.out.cells
 obtain ⟨hup, htn⟩ := H3.out.up
 have hR3 : c.R < w3.heap.size := by omega
 have hs4 : w.heap.size < w3.heap.size := by omega
 have hs5 : w.heap.size + 1 < w3.heap.size := by omega
 cases h4 : (x.k == 4) with
 | true =>
  have hlt := hxl (by simp at h4; omega)
  have H4 := Lib.hid ((H3.out.next hlt).alloc (Obj.cells #[.int .i64 x.k, .string x.t, .int .i64 (x.a : Int), .int .i64 (x.b : Int)] 83))
  have G4 := Lib.hid ((Fr.setR (c := c) (w := w3) hBR 2 (.int .i64 ((i : Int) + 1))).trans (Fr.of_below ((Below.refl _ _).alloc (Nat.le_refl _) (Obj.cells #[.int .i64 x.k, .string x.t, .int .i64 (x.a : Int), .int .i64 (x.b : Int)] 83)) (H3.out.next hlt).base))
  go_wp2_with fail
  have N4 := Lib.hid (named_row (tm := tm) (y := ⟨k, tx, a, b⟩) (most := most) (ns := ns) HX.out (by simpa using h4))
  refine (row_any D IH hD _ _ _ _ _ H4.out).mono ?_
  rintro e w5 ⟨v, rfl, j, er5, l, g, cap, cs, ns5, pl5, hR, hSR⟩
  obtain ⟨n, hn⟩ : ∃ n, n = l.length := ⟨_, rfl⟩
  obtain ⟨ts, hts⟩ : ∃ ts, ts = fun k => l.getD k .nil := ⟨_, rfl⟩
  rw [← hn, ← hts] at hR
  have HNL := Lib.hid hn
  have HTS := Lib.hid hts
  clear hn hts
  obtain rfl := hR.hv
  have RR := Lib.hid hR
  clear hR r2 r5 rf q0 q1 q2 q3
  go_wp2_with fail
  refine (rmust_any _ _ RR.out.rd).mono ?_
  rintro e w6 ⟨rfl, ⟨j6, er6, pl6, h6, hj6, he6, hs6⟩, f6⟩
  have RS := Lib.hid (RR.out.stand f6 h6 hj6 fun e => (he6 e).1)
  have HE := Lib.hid he6
  have hT6 := Lib.hid (RS.out.fr.box H4.out (G4.out.box H3.out hT3.out (by decide) (by decide)) (by decide) (by decide))
  have hE6 := Lib.hid (RS.out.fr.box H4.out (G4.out.box H3.out hE3.out (by decide) (by decide)) (by decide) (by decide))
  obtain ⟨q0, q1, q2, q3⟩ := box4t hT6.out
  have hn2 : n ≤ 2000 := by have := RR.out.few; have := RR.out.rd.up; omega
  have hsz6 := RS.out.fr.size
  clear h6 f6 he6
  go_wp2_with fail
  refine (cmp_tp tx (fun b => w.heap.size + 2 ≤ b) g n cap cs (0, 0) ts _ RS.out.hn hn2 RS.out.hcap RS.out.blk (fun k hk => by
   obtain ⟨v0, v1, v2, v3, h0, h1, h2, h3, ht⟩ := RS.out.tp k hk
   exact ⟨v0, v1, v2, v3, h0, h1, h2, h3, ht.more fun b hb => by have := hb.1; simp at this; omega⟩)).mono ?_
  rintro e w7 ⟨⟨v7, rfl, hv7⟩, h7⟩
  have hv8 := hv7
  obtain ⟨A7, c7, rfl, _⟩ := hv8
  have HV := Lib.hid hv7
  have hE7 := Lib.hid ((h7.block _ (heap_lt hE6.out)).trans hE6.out)
  have H7 := Lib.hid (RS.out.rd.below h7)
  have F7 := Lib.hid ((((Fr.of_below B3.out hB).trans G4.out).trans RS.out.fr).trans (Fr.of_below h7 RS.out.rd.base))
  have hs7 := Lib.hid (show w.heap.size + 2 ≤ w6.heap.size by have := RS.out.fr.size; simp at this; omega)
  have bf : ∀ j, w7.frozen? ⟨w.heap.size + 1, j, none⟩ = false := fun j => by simp [World.frozen?, hE7.out]
  obtain ⟨x0, x1, x2, x3⟩ := box4t hE7.out
  clear hv7 h7 hsz6
  go_wp2_with fail
  obtain ⟨p0, p1, p2, p3⟩ := box4t (box_put4 hE7.out (.int .i64 4) (.int .i64 0) (.string tx) (.slice A7 n c7) rfl).1
  refine bodyPost_ret (v := .tuple #[.agg #[.int .i64 4, .int .i64 0, .string tx, .slice A7 n c7], .int .i64 0]) (by simp [results, go_sem, p0, p1, p2, p3]) rfl ?_
  refine ⟨_, 0, rfl, ret_boxP H7.out F7.out hB hE7.out (by omega) (HV.out.more fun b hb => ?_) (by have := RS.out.lo; omega) (fun e => ?_) (Lib.hid ?_)⟩
  ·have := hs7.out
   rcases hb with hb | hb
   ·exact ⟨by omega, by omega⟩
   ·exact ⟨by omega, by omega⟩
  ·obtain ⟨e1, e2⟩ := HE.out e
   obtain ⟨g0, g1, g2⟩ := RR.out.ok e1
   have hn := RR.out.hn
   refine ⟨g0, cmp_good _ htx _ hn _ g1, ?_⟩
   simp only [T.nodes]
   omega
  ·rw [N4.out]
   refine hSR.out.bind ?_
   have := hs6.out.must (cmpT tx l, (0 : Int))
   rw [HNL.out, HTS.out]
   exact this
 | false =>
  go_upto_region 7 with fail
  go_cut [50] (fun s50 wx => (w3.alloc (Obj.cells #[.int .i64 x.k, .string x.t, .int .i64 (x.a : Int), .int .i64 (x.b : Int)] 83)) = wx ∧ ∃ bb : Bool, s50 = .bool bb ∧ (bb = true → (x.k == 3) = true) ∧ Hid (bb = true ↔ (tx.toList = [45] ∧ x.k = 3 ∧ x.a = b)))
  case first =>
   cases h45 : (tx.toList == [45]) with
   | true =>
    cases hk3 : (x.k == 3) with
    | true =>
     cases hfr : ((x.a : Int) == b) with
     | true =>
      go_wp2_with fail
      go_meet
      case rel => exact ⟨rfl, _, rfl, (fun _ => hk3), Lib.hid ⟨fun _ => ⟨by simpa using h45, by simpa using hk3, by simp at hfr; omega⟩, fun _ => rfl⟩⟩
     | false =>
      go_wp2_with fail
      go_meet
      case rel => exact ⟨rfl, _, rfl, (fun h => by cases h), Lib.hid ⟨(fun h => by cases h), fun h => by simp at hfr; exact absurd (h.2.2) (by omega)⟩⟩
    | false =>
     go_wp2_with fail
     go_meet
     case rel => exact ⟨rfl, _, rfl, (fun h => by cases h), Lib.hid ⟨(fun h => by cases h), fun h => by simp at hk3; exact absurd h.2.1 hk3⟩⟩
   | false =>
    go_wp2_with fail
    go_meet
    case rel => exact ⟨rfl, _, rfl, (fun h => by cases h), Lib.hid ⟨(fun h => by cases h), fun h => by simp at h45; exact absurd h.1 h45⟩⟩
  case rest =>
   obtain ⟨rfl, bb, rfl, hbb, hbi⟩ := hcut
   have H44 := Lib.hid (show x.k ≠ 4 by simpa using h4)
   cases bb with
   | true =>
    have hk3 := hbb rfl
    clear hbb
    have hlt := hxl (by simp at hk3; omega)
    have H4 := Lib.hid ((H3.out.next hlt).alloc (Obj.cells #[.int .i64 x.k, .string x.t, .int .i64 (x.a : Int), .int .i64 (x.b : Int)] 83))
    have G4 := Lib.hid ((Fr.setR (c := c) (w := w3) hBR 2 (.int .i64 ((i : Int) + 1))).trans (Fr.of_below ((Below.refl _ _).alloc (Nat.le_refl _) (Obj.cells #[.int .i64 x.k, .string x.t, .int .i64 (x.a : Int), .int .i64 (x.b : Int)] 83)) (H3.out.next hlt).base))
    go_wp2_with fail
    have N5 := Lib.hid (named_int (tm := tm) (y := ⟨k, tx, a, b⟩) (most := most) (ns := ns) HX.out H44.out (hbi.out.1 (by trivial)))
    refine (integer_any (i0 := i0) x true _ H4.out hxs.1 (by omega)).mono ?_
    rintro e w5 ⟨v5, rfl, j5, er5, t5, ns5, pl5, h5, f5, hj5, ht5, hok5, hs5'⟩
    have hag := ht5.agg
    obtain ⟨k0, k1, k2, A0, m0, c0, rfl⟩ := hag
    have hE5 := Lib.hid (f5.box H4.out (G4.out.box H3.out hE3.out (by decide) (by decide)) (by decide) (by decide))
    have H5 := Lib.hid h5
    have F5 := Lib.hid (((Fr.of_below B3.out hB).trans G4.out).trans f5)
    have HT5 := Lib.hid ht5
    have HO := Lib.hid hok5
    have bf : ∀ j, w5.frozen? ⟨w.heap.size + 1, j, none⟩ = false := fun j => by simp [World.frozen?, hE5.out]
    obtain ⟨x0, x1, x2, x3⟩ := box4t hE5.out
    clear h5 f5 ht5 hok5 r2 r5 rf q0 q1 q2 q3
    go_wp2_with fail
    obtain ⟨p0, p1, p2, p3⟩ := box4t (box_put4 hE5.out (.int .i64 k0) (.int .i64 k1) (.string k2) (.slice A0 m0 c0) rfl).1
    refine bodyPost_ret (v := .tuple #[.agg #[.int .i64 k0, .int .i64 k1, .string k2, .slice A0 m0 c0], .int .i64 0]) (by simp [results, go_sem, p0, p1, p2, p3]) rfl ?_
    exact ⟨_, 0, rfl, ret_boxP H5.out F5.out hB hE5.out (by omega) (HT5.out.more fun b hb => by simp at hb; exact ⟨by omega, by omega⟩) (by omega) HO.out (Lib.hid (by rw [N5.out]; exact hs5'.out.bindOk fun r => (r, (0 : Int))))⟩
   | false =>
    clear hbb
    have HNI := Lib.hid (show ¬ (tx.toList = [45] ∧ x.k = 3 ∧ x.a = b) from fun h => by cases hbi.out.2 h)
    go_wp2_with fail
    refine (prefix_any tx _).mono ?_
    rintro e w5 ⟨⟨p, m, is, rfl, hPre⟩, h5⟩
    have H5 := Lib.hid ((H3.out.alloc _).below h5)
    have F5 := Lib.hid ((Fr.of_below B3.out hB).trans ((Fr.of_below ((Below.refl _ _).alloc (Nat.le_refl _) _) H3.out.base).trans (Fr.of_below h5 (H3.out.alloc _).base)))
    have hT5 := Lib.hid ((h5.block _ (by simp; omega)).trans ((Below.heap_alloc w3 (Obj.cells #[.int .i64 x.k, .string x.t, .int .i64 (x.a : Int), .int .i64 (x.b : Int)] 83) w.heap.size (by omega)).trans hT3.out))
    have hE5 := Lib.hid ((h5.block _ (by simp; omega)).trans ((Below.heap_alloc w3 (Obj.cells #[.int .i64 x.k, .string x.t, .int .i64 (x.a : Int), .int .i64 (x.b : Int)] 83) (w.heap.size + 1) (by omega)).trans hE3.out))
    obtain ⟨q0, q1, q2, q3⟩ := box4t hT5.out
    have hs5 : w.heap.size + 2 ≤ w5.heap.size := by have := h5.size; simp at this; omega
    clear h5
    cases is with
    | false =>
     go_wp2_with fail
     refine (atom_any _ _).mono ?_
     rintro e w7 ⟨rfl, h7⟩
     have hE7 := Lib.hid ((h7.block _ (heap_lt hE5.out)).trans hE5.out)
     have H7 := Lib.hid (H5.out.below h7)
     have F7 := Lib.hid (F5.out.trans (Fr.of_below h7 H5.out.base))
     have bf : ∀ j, w7.frozen? ⟨w.heap.size + 1, j, none⟩ = false := fun j => by simp [World.frozen?, hE7.out]
     obtain ⟨x0, x1, x2, x3⟩ := box4t hE7.out
     clear h7
     go_wp2_with fail
     obtain ⟨p0, p1, p2, p3⟩ := box4t (box_put4 hE7.out (.int .i64 3) (.int .i64 0) (.string tx) (.slice none 0 0) rfl).1
     refine bodyPost_ret (v := .tuple #[.agg #[.int .i64 3, .int .i64 0, .string tx, .slice none 0 0], .int .i64 0]) (by simp [results, go_sem, p0, p1, p2, p3]) rfl ?_
     exact ⟨_, 0, rfl, ret_boxP H7.out F7.out hB hE7.out (by omega) (TP.leaf _ _ 3 0 _) (Nat.le_refl _) (fun e => ⟨e, atom_good _ htx, by rw [leaf_nodes]; exact hi0⟩) (Lib.hid (by rw [named_none (y := ⟨k, tx, a, b⟩) HX.out H44.out HNI.out (show opPre tx = none from hPre.out)]; exact Sp.ok _ _ _))⟩
    | true =>
     by_cases hpm : p ≤ most
     ·go_wp2_with fail
      refine (ends_any _ H5.out).mono ?_
      rintro e w6 ⟨⟨b6, rfl, hEnd⟩, h6⟩
      have H6 := Lib.hid (H5.out.below h6)
      have F6 := Lib.hid (F5.out.trans (Fr.of_below h6 H5.out.base))
      have hT6 := Lib.hid ((h6.block _ (by omega)).trans hT5.out)
      have hE6 := Lib.hid ((h6.block _ (by omega)).trans hE5.out)
      have hs6' : w.heap.size + 2 ≤ w6.heap.size := Nat.le_trans hs5 h6.size
      obtain ⟨q0, q1, q2, q3⟩ := box4t hT6.out
      clear h6
      cases b6 with
      | true =>
       go_wp2_with fail
       refine (atom_any _ _).mono ?_
       rintro e w7 ⟨rfl, h7⟩
       have hE7 := Lib.hid ((h7.block _ (heap_lt hE6.out)).trans hE6.out)
       have H7 := Lib.hid (H6.out.below h7)
       have F7 := Lib.hid (F6.out.trans (Fr.of_below h7 H6.out.base))
       have bf : ∀ j, w7.frozen? ⟨w.heap.size + 1, j, none⟩ = false := fun j => by simp [World.frozen?, hE7.out]
       obtain ⟨x0, x1, x2, x3⟩ := box4t hE7.out
       clear h7
       go_wp2_with fail
       obtain ⟨p0, p1, p2, p3⟩ := box4t (box_put4 hE7.out (.int .i64 3) (.int .i64 0) (.string tx) (.slice none 0 0) rfl).1
       refine bodyPost_ret (v := .tuple #[.agg #[.int .i64 3, .int .i64 0, .string tx, .slice none 0 0], .int .i64 0]) (by simp [results, go_sem, p0, p1, p2, p3]) rfl ?_
       exact ⟨_, 0, rfl, ret_boxP H7.out F7.out hB hE7.out (by omega) (TP.leaf _ _ 3 0 _) (Nat.le_refl _) (fun e => ⟨e, atom_good _ htx, by rw [leaf_nodes]; exact hi0⟩) (Lib.hid (by rw [named_no (y := ⟨k, tx, a, b⟩) HX.out H44.out HNI.out (show opPre tx = some (p, m) from hPre.out) (fun h => by have h7 := h.2; rw [hEnd.out] at h7; cases h7)]; exact Sp.ok _ _ _))⟩
      | false =>
       have hwr : IntKind.i64.wrap ((D : Int) + 1) = (D : Int) + 1 := by
        rw [IntKind.wrap_i64]
        omega
       have HOP := Lib.hid (named_op (tm := tm) (y := ⟨k, tx, a, b⟩) (most := most) (ns := ns) HX.out H44.out HNI.out (show opPre tx = some (p, m) from hPre.out) ⟨hpm, hEnd.out⟩)
       have hs6 := F6.out.size
       clear B2 hT2 hE2 H2 B3 H3 hT3 hE3 H5 F5 hT5 hE5 r2 r5 rf q0 q2 q3 hup htn hR3 hs4 hs5 hxs hxl H hpm
       have qd : w6.drew.cell? ⟨w.heap.size, 1, none⟩ = some (.string tx) := q1
       go_wp2_with fail
       go_region_held3 (fun w' => w'.cell? ⟨w.heap.size, 1, none⟩ = some (.string tx))
        (first | (with_reducible exact qd) | (with_reducible exact q8) | (with_reducible exact q9) | (simp [World.cell?_setCell_other, q9]; done))
        (first
          | (go_at_call 26
             have HD := H6.out.below ((Below.refl w6.heap.size w6).drew)
             refine (IH m _ _ _ _ _ HD).mono ?_
             rintro e w8 ⟨v8, rfl, j8, er8, t8, ns8, pl8, h8, f8, hj8, ht8, hok8, hs8x⟩
             have hag := ht8.agg
             obtain ⟨k0, k1, k2, A0, m0, c0, rfl⟩ := hag
             have f8' := (Fr.of_below ((Below.refl w6.heap.size w6).drew) H6.out.base).trans f8
             have hT8 := f8'.box H6.out hT6.out (by decide) (by decide)
             have hE8 := f8'.box H6.out hE6.out (by decide) (by decide)
             have q8 := (box4t hT8).2.1)
          | (go_at_call 73
             refine (one_tp tx (fun b => w.heap.size + 2 ≤ b) t8 _ _ (ht8.more fun b hb => by have h9 : w6.heap.size ≤ b := hb; omega)).mono ?_
             rintro e w9 ⟨⟨v9, rfl, hv9⟩, h9⟩
             have hv10 := hv9
             obtain ⟨A9, c9, rfl, _⟩ := hv10
             have hE9 := (h9.block _ (heap_lt hE8)).trans hE8
             have q9 := (box4t ((h9.block _ (heap_lt hT8)).trans hT8)).2.1
             have bf : ∀ j, w9.frozen? ⟨w.heap.size + 1, j, none⟩ = false := (fun j => by simp [World.frozen?, hE9])
             obtain ⟨x0, x1, x2, x3⟩ := box4t hE9))
       go_wp2_with fail
       have W9 := Lib.hid (show Rd w9 c j8 ns8 pl8 er8 from h8.below h9)
       have F9 := Lib.hid ((F6.out.trans f8').trans (Fr.of_below h9 h8.base))
       have hs8 := f8'.size
       have HV9 := Lib.hid hv9
       have HE9 := Lib.hid hE9
       have HO8 := Lib.hid hok8
       obtain ⟨p0, p1, p2, p3⟩ := box4t (box_put4 hE9 (.int .i64 4) (.int .i64 0) (.string tx) (.slice A9 1 c9) rfl).1
       refine bodyPost_ret (v := .tuple #[.agg #[.int .i64 4, .int .i64 0, .string tx, .slice A9 1 c9], .int .i64 p]) (by simp [results, go_sem, p0, p1, p2, p3]) rfl ?_
       refine ⟨_, p, rfl, ret_boxP W9.out F9.out hB HE9.out (by omega) (HV9.out.more fun b hb => ?_) hj8 (fun e => ?_) (Lib.hid (by rw [HOP.out]; exact hs8x.out.bindOk fun r => (oneT tx r, p)))⟩
       ·rcases hb with hb | hb
        ·exact ⟨by omega, by omega⟩
        ·exact ⟨by omega, by omega⟩
       ·obtain ⟨g0, g1, g2⟩ := HO8.out e
        refine ⟨g0, cmp_good _ htx _ (by omega) _ fun _ _ => g1, ?_⟩
        simp only [T.nodes, sumTo]
        omega
     ·have HPM := Lib.hid hpm
      go_wp2_with fail
      refine (atom_any _ _).mono ?_
      rintro e w7 ⟨rfl, h7⟩
      have hE7 := Lib.hid ((h7.block _ (heap_lt hE5.out)).trans hE5.out)
      have H7 := Lib.hid (H5.out.below h7)
      have F7 := Lib.hid (F5.out.trans (Fr.of_below h7 H5.out.base))
      have bf : ∀ j, w7.frozen? ⟨w.heap.size + 1, j, none⟩ = false := fun j => by simp [World.frozen?, hE7.out]
      obtain ⟨x0, x1, x2, x3⟩ := box4t hE7.out
      clear h7
      go_wp2_with fail
      obtain ⟨p0, p1, p2, p3⟩ := box4t (box_put4 hE7.out (.int .i64 3) (.int .i64 0) (.string tx) (.slice none 0 0) rfl).1
      refine bodyPost_ret (v := .tuple #[.agg #[.int .i64 3, .int .i64 0, .string tx, .slice none 0 0], .int .i64 0]) (by simp [results, go_sem, p0, p1, p2, p3]) rfl ?_
      exact ⟨_, 0, rfl, ret_boxP H7.out F7.out hB hE7.out (by omega) (TP.leaf _ _ 3 0 _) (Nat.le_refl _) (fun e => ⟨e, atom_good _ htx, by rw [leaf_nodes]; exact hi0⟩) (Lib.hid (by rw [named_no (y := ⟨k, tx, a, b⟩) HX.out H44.out HNI.out (show opPre tx = some (p, m) from hPre.out) (fun h => by have h7 := HPM.out; have h8 := h.1; omega)]; exact Sp.ok _ _ _))⟩
end Go.Proofs.YtibcpdmeigdgpaaGreatDoor
