/- The program's parser: what begins with an atom. -/
import Derived.Test.YtibcpdmeigdgpaaGreatDoorKOrd
import Derived.Test.YtibcpdmeigdgpaaGreatDoorKHo
import Derived.Test.YtibcpdmeigdgpaaGreatDoorKRd10
import Derived.Deep.RegionHeld3
namespace Go.Proofs.YtibcpdmeigdgpaaGreatDoor
open Go.RowKit
def RelT2 (w : World) (i : Nat) : T × Int → Nat → Value → World → Prop := fun x j v w' => ∃ tv, v = .tuple #[tv, .int .i64 x.2] ∧ RelT w i x.1 j tv w'
theorem ret_box2 {c : Rdc} {w wk : World} {i0 i j : Nat} {ns' : List ByteArray} {res : PR (T × Int)} {t : T} {pr : Int} {g : Nat} {m : Nat × Nat} {u0 u1 u2 u3 x0 x1 x2 x3 : Value} (H : Pd wk c j ns') (F : Frp c w wk) (hB : c.B ≤ w.heap.size)
 (hbx : wk.heap[g]? = some (.cells #[u0, u1, u2, u3] 39 m)) (hg : w.heap.size ≤ g) (ht : TP wk (fun b => w.heap.size ≤ b ∧ b ≠ g) t (.agg #[x0, x1, x2, x3])) (hj : i ≤ j) (hgd : t.good) (hnd : i0 + t.nodes ≤ j) (hres : res = .ok ((t, pr), j, ns')) :
 PQ c w i res (RelT2 w i0) (.returned (.tuple #[.agg #[x0, x1, x2, x3], .int .i64 pr])) ((((wk.setCell ⟨g, 0, none⟩ x0).setCell ⟨g, 1, none⟩ x1).setCell ⟨g, 2, none⟩ x2).setCell ⟨g, 3, none⟩ x3) := by
 subst hres
 exact ⟨F.put hg hB hbx _ _ _ _, _, rfl, H.putT hbx _ _ _ _, hj, _, rfl, (tp_put hbx _ _ _ _ ht fun _ hb => hb.2).more fun _ hb => hb.1, hgd, hnd⟩
theorem pcmp_good {nm : ByteArray} (h : nameOk nm) {l : List T} (h0 : 0 < l.length) (hl : ∀ k, k < l.length → (l.getD k .nil).good) : (cmpT nm l).good := ⟨.inr (.inr (.inr ⟨rfl, rfl, h, h0⟩)), hl⟩
theorem pcmp_nodes (nm : ByteArray) (l : List T) : (cmpT nm l).nodes = 1 + sumTo l.length fun k => (l.getD k .nil).nodes := rfl
theorem nx_fine {w : World} {c : Rdc} {j : Nat} {ns : List ByteArray} (h : Pd w c j ns) (hk : (nx c j).k ≠ 0) : (nx c j).fine ∧ (nx c j).t.size ≤ 4096 := by
 have hlt := nx_ltp h hk
 have hl := h.1.len
 have e : nx c j = c.tk[j]'(by omega) := by unfold nx nxT; rw [dif_pos (by omega)]
 exact ⟨by rw [e]; exact h.2.1 _ (List.getElem_mem _), (nx_sizep h).1⟩
theorem nx_alone {w : World} {c : Rdc} {j : Nat} {ns : List ByteArray} (h : Pd w c j ns) : aloneP (nx c j) = endsP c.tk c.s.size j :=
 alone_ends h.2.1 fun x hx => ⟨(h.1.ok x hx).1, (h.1.ok x hx).2.1⟩
set_option maxRecDepth 100000 in
set_option maxHeartbeats 8000000 in
theorem pnamed_any {c : Rdc} (D : Nat) {tm : Int → Nat → List ByteArray → PR T} (IH : PTermC c ((D : Int) + 1) tm) (hD : D ≤ 64) (most : Int) (y : Tk) (hy : nameOk y.t) (w : World) (i0 : Nat) (ns : List ByteArray) (h : Pd w c (i0 + 1) ns) (hev : Ev c w) :
 Calls Tryz.prog 84 #[.pointer (some ⟨c.R, 0, none⟩), .agg #[.int .i64 y.k, .string y.t, .int .i64 (y.a : Int), .int .i64 (y.b : Int)], .int .i64 most, .int .i64 (D : Int)] w fun e w' => PQ c w (i0 + 1) (namedP c.tk c.s.size tm y most (i0 + 1) ns) (RelT2 w i0) e w' := by
 have hB := h.base
 have H := Lib.hid h
 have HE := Lib.hid hev
 have HY := Lib.hid hy
 clear h hev hy
 obtain ⟨RS, hRS⟩ : ∃ RS, namedP c.tk c.s.size tm y most (i0 + 1) ns = RS := ⟨_, rfl⟩
 rw [hRS]
 obtain ⟨x, hx⟩ : ∃ x, nx c (i0 + 1) = x := ⟨_, rfl⟩
 have HX := Lib.hid hx
 obtain ⟨ky, ty, ya, yb⟩ := y
 have B1 := Lib.hid (belP (belP (Below.refl w.heap.size w) (Obj.cells #[.int .i64 ky, .string ty, .int .i64 (ya : Int), .int .i64 (yb : Int)] 83)) (Obj.cells #[.int .i64 0, .int .i64 0, .string ⟨#[]⟩, .slice none 0 0] 39))
 have F1 := Lib.hid (Frp.of_below B1.out hB)
 have H1 := Lib.hid (H.out.below B1.out)
 have T1 := Lib.hid ((Below.heap_alloc (w.alloc (Obj.cells #[.int .i64 ky, .string ty, .int .i64 (ya : Int), .int .i64 (yb : Int)] 83)) (Obj.cells #[.int .i64 0, .int .i64 0, .string ⟨#[]⟩, .slice none 0 0] 39) w.heap.size (by simp)).trans (heap_alloc_new w _))
 have X1 := Lib.hid (show ((w.alloc (Obj.cells #[.int .i64 ky, .string ty, .int .i64 (ya : Int), .int .i64 (yb : Int)] 83)).alloc (Obj.cells #[.int .i64 0, .int .i64 0, .string ⟨#[]⟩, .slice none 0 0] 39)).heap[w.heap.size + 1]? = some (Obj.cells #[.int .i64 0, .int .i64 0, .string ⟨#[]⟩, .slice none 0 0] 39) from heap_at _ _ (by simp))
 have PK := Lib.hid (ppeek_any _ H1.out)
 rw [hx] at PK
 have HRS := Lib.hid hRS
 clear hRS hx
 go_enter Tryz.func84, Tryz.ntmps84
 go_wp2_with fail
 refine PK.out.mono ?_
 rintro e w2 ⟨rfl, hb2⟩
 have ha2 := hb2.size
 have hs2 : w.heap.size + 2 ≤ w2.heap.size := by simpa using ha2
 have B2 := Lib.hid ((B1.out.trans (hb2.mono B1.out.size)).alloc (by omega) (Obj.cells #[.int .i64 x.k, .string x.t, .int .i64 (x.a : Int), .int .i64 (x.b : Int)] 83))
 have H2 := Lib.hid ((H1.out.below hb2).alloc (Obj.cells #[.int .i64 x.k, .string x.t, .int .i64 (x.a : Int), .int .i64 (x.b : Int)] 83))
 have F2 := Lib.hid (Frp.of_below B2.out hB)
 have K2 := Lib.hid (heap_alloc_new w2 (Obj.cells #[.int .i64 x.k, .string x.t, .int .i64 (x.a : Int), .int .i64 (x.b : Int)] 83))
 have T2 := Lib.hid ((Below.heap_alloc w2 (Obj.cells #[.int .i64 x.k, .string x.t, .int .i64 (x.a : Int), .int .i64 (x.b : Int)] 83) w.heap.size (by omega)).trans ((hb2.block _ (heap_lt T1.out)).trans T1.out))
 have X2 := Lib.hid ((Below.heap_alloc w2 (Obj.cells #[.int .i64 x.k, .string x.t, .int .i64 (x.a : Int), .int .i64 (x.b : Int)] 83) (w.heap.size + 1) (by omega)).trans ((hb2.block _ (heap_lt X1.out)).trans X1.out))
 have K2c := box4t K2.out
 have T2c := box4t T2.out
 clear hb2 ha2 PK
 obtain ⟨t0, t1, t2, t3⟩ := T2c
 obtain ⟨s0, s1, s2, s3⟩ := K2c
 have hlw : w.heap.size < w2.heap.size := by omega
 by_cases k4 : x.k = 4
 ·have b4 : (x.k == 4) = true := by simpa using k4
  have HR4 := Lib.hid (show RS = (rowP c.tk c.s.size tm (i0 + 1 + 1) ns).andThen fun l j ns1 => mustN c.tk c.s.size ⟨#[41]⟩ (cmpT ty l, 0) j ns1 by
   rw [← HRS.out]
   unfold namedP
   dsimp only
   rw [if_pos (show (nxT c.tk c.s.size (i0 + 1)).k = 4 by rw [show nxT c.tk c.s.size (i0 + 1) = x from HX.out]; exact k4)])
  have CT := Lib.hid (ptake_any _ H2.out (by rw [HX.out, k4]; decide))
  rw [HX.out] at CT
  clear k4
  go_wp2_with fail
  refine CT.out.mono ?_
  rintro e w3 ⟨rfl, h3, f3⟩
  have H3 := Lib.hid h3
  have F3 := Lib.hid (F2.out.trans f3)
  have T3 := Lib.hid (f3.boxp H2.out T2.out (by decide) (by decide))
  have X3 := Lib.hid (f3.boxp H2.out X2.out (by decide) (by decide))
  clear h3 f3 CT
  go_wp2_with fail
  refine (prow_any D IH hD _ _ _ H3.out (HE.out.fr F3.out)).mono ?_
  rintro e w4 hq
  cases hres : rowP c.tk c.s.size tm (i0 + 1 + 1) ns with
  | error pk =>
   obtain ⟨p, k⟩ := pk
   obtain ⟨f4, rfl⟩ := hq.err hres
   have HR := Lib.hid (show RS = .error (p, k) by rw [HR4.out, hres]; rfl)
   clear hq hres
   go_wp2_with fail
   refine ⟨rfl, ?_⟩
   rw [HR.out]
   exact ⟨F3.out.trans f4, rfl⟩
  | ok yy =>
   obtain ⟨l, j, ns4⟩ := yy
   obtain ⟨f4, v, rfl, h4, hj, g, cs, fg, rfl, hl0, hl1, hg0, hblk, hcs, hgd, hnd⟩ := hq.ok hres
   have HR5 := Lib.hid (show RS = mustN c.tk c.s.size ⟨#[41]⟩ (cmpT ty l, 0) j ns4 by rw [HR4.out, hres]; rfl)
   have H4 := Lib.hid h4
   have F4 := Lib.hid (F3.out.trans f4)
   have T4 := Lib.hid (f4.boxp H3.out T3.out (by decide) (by decide))
   have X4 := Lib.hid (f4.boxp H3.out X3.out (by decide) (by decide))
   have hs3 := F3.out.size
   have hs4 := f4.size
   have hx3 := heap_lt X3.out
   have TPc := Lib.hid (show TP w4 (fun b => w.heap.size ≤ b ∧ b ≠ w.heap.size + 1) (cmpT ty l) (.agg #[.int .i64 4, .int .i64 0, .string ty, .slice (some ⟨g, 0, none⟩) l.length l.length]) from
    ⟨_, _, rfl, Nat.le_refl _, (fun h => by cases h), fun _ => ⟨g, cs, fg, rfl, ⟨by omega, by omega⟩, hblk, fun k hk => by
     obtain ⟨v0, v1, v2, v3, q0, q1, q2, q3, ht⟩ := hcs k hk
     exact ⟨v0, v1, v2, v3, q0, q1, q2, q3, ht.more fun b hb => ⟨by omega, by omega⟩⟩⟩⟩)
   have HGD := Lib.hid (pcmp_good (show nameOk ty from HY.out) hl0 hgd)
   have HND := Lib.hid (show i0 + (cmpT ty l).nodes + 1 ≤ j + 1 by rw [pcmp_nodes]; omega)
   obtain ⟨n, hn⟩ : ∃ n, l.length = n := ⟨_, rfl⟩
   rw [hn] at TPc ⊢
   clear hq hres h4 f4 hl0 hl1 hg0 hblk hcs hgd hnd hn
   go_wp2_with fail
   refine (pmust_any ⟨#[41]⟩ _ H4.out).mono ?_
   rintro e w5 hq
   cases hres : mustN c.tk c.s.size ⟨#[41]⟩ () j ns4 with
   | error pk =>
    obtain ⟨p, k⟩ := pk
    obtain ⟨f5, rfl⟩ := hq.err hres
    have HR := Lib.hid (show RS = .error (p, k) by rw [HR5.out]; exact must_err hres)
    clear hq hres
    go_wp2_with fail
    refine ⟨rfl, ?_⟩
    rw [HR.out]
    exact ⟨F4.out.trans f5, rfl⟩
   | ok yy =>
    obtain ⟨_, j2, ns5⟩ := yy
    obtain ⟨f5, v, rfl, h5, hj5, rfl, hji⟩ := hq.ok hres
    have HR6 := Lib.hid (show RS = .ok ((cmpT ty l, 0), j2, ns5) by rw [HR5.out]; exact must_okv hres)
    have H5 := Lib.hid h5
    have F5 := Lib.hid (F4.out.trans f5)
    have T5 := Lib.hid (f5.boxp H4.out T4.out (by decide) (by decide))
    have X5 := Lib.hid (f5.boxp H4.out X4.out (by decide) (by decide))
    have TP5 := Lib.hid (TPc.out.frp f5 H4.out)
    have T5c := box4t T5.out
    obtain ⟨t0, t1, t2, t3⟩ := T5c
    clear hq hres h5 f5
    go_wp2_with fail
    refine (pcell_any ty _ n n _).mono ?_
    rintro e w6 ⟨rfl, hb6⟩
    have H6 := Lib.hid (H5.out.below hb6)
    have F6 := Lib.hid (F5.out.trans (Frp.of_below hb6 H5.out.base))
    have X6 := Lib.hid ((hb6.block _ (heap_lt X5.out)).trans X5.out)
    have TP6 := Lib.hid (TP5.out.below hb6)
    obtain ⟨x0, x1, x2, x3⟩ := box4t X6.out
    have xf : ∀ j, w6.frozen? ⟨w.heap.size + 1, j, none⟩ = false := fun j => by simp [World.frozen?, X6.out]
    clear hb6 t0 t1 t2 t3
    go_wp2_with fail
    obtain ⟨p0, p1, p2, p3⟩ := box4t (box_put4 X6.out (.int .i64 4) (.int .i64 0) (.string ty) (.slice (some ⟨g, 0, none⟩) n n) rfl).1
    refine bodyPost_ret (v := .tuple #[.agg #[.int .i64 4, .int .i64 0, .string ty, .slice (some ⟨g, 0, none⟩) n n], .int .i64 0]) (by simp [results, go_sem, p0, p1, p2, p3]) rfl ?_
    exact ret_box2 H6.out F6.out hB X6.out (by omega) TP6.out (by omega) HGD.out (by have := HND.out; omega) HR6.out
 ·have b4 : (x.k == 4) = false := by simpa using k4
  cases c45 : (ty.toList == [45]) with
  | true =>
   cases c3 : (x.k == 3) with
   | true =>
    cases cab : ((x.a : Int) == (yb : Int)) with
    | true =>
     have HRB := Lib.hid (show RS = (intP x true (i0 + 1 + 1) ns).andThen fun r j ns1 => .ok ((r, 0), j, ns1) by
      rw [← HRS.out]
      unfold namedP
      dsimp only
      rw [show nxT c.tk c.s.size (i0 + 1) = x from HX.out, if_neg k4, if_pos ⟨by simpa using c45, by simpa using c3, (by have h9 : (x.a : Int) = yb := (by simpa using cab); omega)⟩])
     have hk3 : (nx c (i0 + 1)).k ≠ 0 := by (rw [HX.out]; have h9 : x.k = 3 := (by simpa using c3); omega)
     have CT := Lib.hid (ptake_any _ H2.out hk3)
     have hfx := nx_fine H2.out hk3
     rw [HX.out] at CT hfx
     have HFX := Lib.hid (And.intro (hfx.1.2 (by simpa using c3)).1 hfx.2)
     clear k4 hk3 hfx
     go_wp2_with fail
     refine CT.out.mono ?_
     rintro e w3 ⟨rfl, h3, f3⟩
     have H3 := Lib.hid h3
     have F3 := Lib.hid (F2.out.trans f3)
     have X3 := Lib.hid (f3.boxp H2.out X2.out (by decide) (by decide))
     have CI := Lib.hid (show Calls Tryz.prog 82 #[.pointer (some ⟨c.R, 0, none⟩), .agg #[.int .i64 x.k, .string x.t, .int .i64 (x.a : Int), .int .i64 (x.b : Int)], .string ⟨#[45]⟩] w3 fun e w' => PQ c w3 (i0 + 1 + 1) (intP x true (i0 + 1 + 1) ns) (fun t _ v _ => ∃ n, t = inT n ∧ I64 n ∧ v = .agg #[.int .i64 2, .int .i64 n, .string ⟨#[]⟩, .slice none 0 0]) e w' from
      pinteger_any x true w3 h3 (HE.out.fr F3.out) (by omega) HFX.out.2 HFX.out.1)
     clear h3 f3 CT
     go_wp2_with fail
     refine CI.out.mono ?_
     rintro e w4 hq
     cases hres : intP x true (i0 + 1 + 1) ns with
     | error pk =>
      obtain ⟨p, k⟩ := pk
      obtain ⟨f4, rfl⟩ := hq.err hres
      have HR := Lib.hid (show RS = .error (p, k) by rw [HRB.out, hres]; rfl)
      clear hq hres
      go_wp2_with fail
      refine ⟨rfl, ?_⟩
      rw [HR.out]
      exact ⟨F3.out.trans f4, rfl⟩
     | ok yy =>
      obtain ⟨t, j, ns4⟩ := yy
      obtain ⟨f4, v, rfl, h4, hj, n, rfl, hn, rfl⟩ := hq.ok hres
      have HR := Lib.hid (show RS = .ok ((inT n, 0), j, ns4) by rw [HRB.out, hres]; rfl)
      have H4 := Lib.hid h4
      have F4 := Lib.hid (F3.out.trans f4)
      have X4 := Lib.hid (f4.boxp H3.out X3.out (by decide) (by decide))
      have HNN := Lib.hid hn
      obtain ⟨x0, x1, x2, x3⟩ := box4t X4.out
      have xf : ∀ j, w4.frozen? ⟨w.heap.size + 1, j, none⟩ = false := fun j => by simp [World.frozen?, X4.out]
      clear hq hres h4 f4 hn
      go_wp2_with fail
      obtain ⟨p0, p1, p2, p3⟩ := box4t (box_put4 X4.out (.int .i64 2) (.int .i64 n) (.string ⟨#[]⟩) (.slice none 0 0) rfl).1
      refine bodyPost_ret (v := .tuple #[.agg #[.int .i64 2, .int .i64 n, .string ⟨#[]⟩, .slice none 0 0], .int .i64 0]) (by simp [results, go_sem, p0, p1, p2, p3]) rfl ?_
      exact ret_box2 H4.out F4.out hB X4.out (by omega) (TP.leaf _ _ 2 n _) (by omega) ⟨.inr (.inl ⟨rfl, HNN.out, rfl, rfl⟩), fun i hi => absurd hi (by omega)⟩ (by rw [leaf_nodes]; omega) HR.out
    | false =>
     have HNB := Lib.hid (show ¬ (ty.toList = [45] ∧ x.k = 3 ∧ x.a = yb) from fun h => by
      have := h.2.2
      rw [this] at cab
      simp at cab)
     have HRP := Lib.hid (show RS = (match opPre ty with
      | none => .ok ((atT ty, 0), i0 + 1, ns)
      | some (p, m) => if p ≤ most ∧ endsP c.tk c.s.size (i0 + 1) = false then (tm m (i0 + 1) ns).andThen (fun r j ns1 => .ok ((oneT ty r, p), j, ns1)) else .ok ((atT ty, 0), i0 + 1, ns)) by
      rw [← HRS.out]
      unfold namedP
      dsimp only
      rw [show nxT c.tk c.s.size (i0 + 1) = x from HX.out, if_neg k4, if_neg HNB.out]
      rfl)
     clear k4
     have CP := Lib.hid (pprefix_any ty _ (HE.out.fr F2.out).ops)
     go_wp2_with fail
     refine CP.out.mono ?_
     rintro e w3 ⟨⟨p, m, is, rfl, hr⟩, hb3⟩
     have H3 := Lib.hid (H2.out.below hb3)
     have F3 := Lib.hid (F2.out.trans (Frp.of_below hb3 H2.out.base))
     have X3 := Lib.hid ((hb3.block _ (heap_lt X2.out)).trans X2.out)
     have T3 := Lib.hid ((hb3.block _ (heap_lt T2.out)).trans T2.out)
     have HPR := Lib.hid hr.out
     have hs3 : w.heap.size + 2 ≤ w3.heap.size := by have h9 := hb3.size; simp at h9; omega
     obtain ⟨t0, t1, t2, t3⟩ := box4t T3.out
     clear hb3 hr CP s0 s1 s2 s3
     cases is with
     | false =>
      have HRD := Lib.hid (show RS = .ok ((atT ty, 0), i0 + 1, ns) by
       rcases HPR.out with ⟨h, _⟩ | ⟨_, h, _⟩
       ·cases h
       ·rw [HRP.out, h])
      have HC := H3
      have FC := F3
      have XC := X3
      go_wp2_with fail
      refine (pconst_any ty _).mono ?_
      rintro e w6 ⟨rfl, hb6⟩
      have H6 := Lib.hid (HC.out.below hb6)
      have F6 := Lib.hid (FC.out.trans (Frp.of_below hb6 HC.out.base))
      have X6 := Lib.hid ((hb6.block _ (heap_lt XC.out)).trans XC.out)
      obtain ⟨x0, x1, x2, x3⟩ := box4t X6.out
      have xf : ∀ j, w6.frozen? ⟨w.heap.size + 1, j, none⟩ = false := fun j => by simp [World.frozen?, X6.out]
      clear hb6
      go_wp2_with fail
      obtain ⟨p0, p1, p2, p3⟩ := box4t (box_put4 X6.out (.int .i64 3) (.int .i64 0) (.string ty) (.slice none 0 0) rfl).1
      refine bodyPost_ret (v := .tuple #[.agg #[.int .i64 3, .int .i64 0, .string ty, .slice none 0 0], .int .i64 0]) (by simp [results, go_sem, p0, p1, p2, p3]) rfl ?_
      exact ret_box2 H6.out F6.out hB X6.out (by omega) (TP.leaf _ _ 3 0 _) (Nat.le_refl _) (atom_good _ HY.out) (by rw [leaf_nodes]; omega) HRD.out
     | true =>
      have HOP := Lib.hid (show opPre ty = some (p, m) by
       rcases HPR.out with ⟨_, h⟩ | ⟨h, _⟩
       ·exact h
       ·cases h)
      by_cases hpm : p ≤ most
      ·have CA := Lib.hid (palone_any _ H3.out (HE.out.fr F3.out))
       have HAE := Lib.hid (nx_alone H3.out)
       rw [HX.out] at CA HAE
       go_wp2_with fail
       refine CA.out.mono ?_
       rintro e w4 ⟨rfl, hb4⟩
       have H4 := Lib.hid (H3.out.below hb4)
       have F4 := Lib.hid (F3.out.trans (Frp.of_below hb4 H3.out.base))
       have X4 := Lib.hid ((hb4.block _ (heap_lt X3.out)).trans X3.out)
       have T4 := Lib.hid ((hb4.block _ (heap_lt T3.out)).trans T3.out)
       have hs4 : w.heap.size + 2 ≤ w4.heap.size := by have h9 := hb4.size; omega
       obtain ⟨t0, t1, t2, t3⟩ := box4t T4.out
       clear hb4 CA
       cases hal : aloneP x with
       | true =>
        have HRD := Lib.hid (show RS = .ok ((atT ty, 0), i0 + 1, ns) by
         rw [HRP.out, HOP.out]
         exact if_neg fun h => by have h9 := h.2; rw [← HAE.out, hal] at h9; cases h9)
        have HC := H4
        have FC := F4
        have XC := X4
        clear hal
        go_wp2_with fail
        refine (pconst_any ty _).mono ?_
        rintro e w6 ⟨rfl, hb6⟩
        have H6 := Lib.hid (HC.out.below hb6)
        have F6 := Lib.hid (FC.out.trans (Frp.of_below hb6 HC.out.base))
        have X6 := Lib.hid ((hb6.block _ (heap_lt XC.out)).trans XC.out)
        obtain ⟨x0, x1, x2, x3⟩ := box4t X6.out
        have xf : ∀ j, w6.frozen? ⟨w.heap.size + 1, j, none⟩ = false := fun j => by simp [World.frozen?, X6.out]
        clear hb6
        go_wp2_with fail
        obtain ⟨p0, p1, p2, p3⟩ := box4t (box_put4 X6.out (.int .i64 3) (.int .i64 0) (.string ty) (.slice none 0 0) rfl).1
        refine bodyPost_ret (v := .tuple #[.agg #[.int .i64 3, .int .i64 0, .string ty, .slice none 0 0], .int .i64 0]) (by simp [results, go_sem, p0, p1, p2, p3]) rfl ?_
        exact ret_box2 H6.out F6.out hB X6.out (by omega) (TP.leaf _ _ 3 0 _) (Nat.le_refl _) (atom_good _ HY.out) (by rw [leaf_nodes]; omega) HRD.out
       | false =>
        have HRC := Lib.hid (show RS = (tm m (i0 + 1) ns).andThen fun r j ns1 => .ok ((oneT ty r, p), j, ns1) by
         rw [HRP.out, HOP.out]
         exact if_pos ⟨hpm, by rw [← HAE.out, hal]⟩)
        clear hal
        go_wp2_with fail
        have hwr : IntKind.i64.wrap ((D : Int) + 1) = (D : Int) + 1 := by
         rw [IntKind.wrap_i64]
         omega
        have qd : w4.drew.cell? ⟨w.heap.size, 1, none⟩ = some (.string ty) := t1
        have BD := Lib.hid ((Below.refl w4.heap.size w4).drew)
        have HD4 := Lib.hid (H4.out.below BD.out)
        have FD4 := Lib.hid (F4.out.trans (Frp.of_below BD.out H4.out.base))
        have ED4 := Lib.hid (HE.out.fr FD4.out)
        clear H1 T1 X1 F1 B1 B2 H2 F2 K2 T2 X2 H3 F3 X3 T3 H
        cases hres : tm m (i0 + 1) ns with
        | error pk =>
         obtain ⟨p', k'⟩ := pk
         have HR := Lib.hid (show RS = .error (p', k') by rw [HRC.out, hres]; rfl)
         refine wp_region_held_drew (S := fun w1 => w1.cell? ⟨w.heap.size, 1, none⟩ = some (.string ty)) (by kernel_rfl) ?Ser1 (fun hH0 => ?Ber1)
         case Ser1 => (exact qd)
         refine tkH 0 ?_
         try simp only [opD, Act.put, sA, sB, sC]
         refine tkH 1 ?_
         try simp only [opD, Act.put, sA, sB, sC]
         refine tkH 2 ?_
         try simp only [opD, Act.put, sA, sB, sC]
         refine tkH 3 ?_
         try simp only [opD, Act.put, sA, sB, sC]
         refine tkH 4 ?_
         try simp only [opD, Act.put, sA, sB, sC]
         refine tkH 5 ?_
         try simp only [opD, Act.put, sA, sB, sC]
         refine tkH 9 ?_
         try simp only [opD, Act.put, sA, sB, sC]
         refine wpAnyH_ready (rs := [6]) (by kernel_rfl) (by simp) ?_
         refine rdH (fun K hK => ?_) AllReadyH.nil
         go_simp
         try rw [hwr]
         refine (IH m _ _ _ HD4.out ED4.out).mono ?_
         rintro e w8 hq
         obtain ⟨f8, rfl⟩ := hq.err hres
         refine ⟨rfl, ?_⟩
         rw [HR.out]
         exact ⟨FD4.out.trans f8, rfl⟩
        | ok yy =>
         obtain ⟨t8, j8, ns8⟩ := yy
         have HR := Lib.hid (show RS = .ok ((oneT ty t8, p), j8, ns8) by rw [HRC.out, hres]; rfl)
         refine wp_region_held_drew (S := fun w1 => w1.cell? ⟨w.heap.size, 1, none⟩ = some (.string ty)) (by kernel_rfl) ?Sor1 (fun hH0 => ?Bor1)
         case Sor1 => (exact qd)
         refine tkH 0 ?_
         try simp only [opD, Act.put, sA, sB, sC]
         refine tkH 1 ?_
         try simp only [opD, Act.put, sA, sB, sC]
         refine tkH 2 ?_
         try simp only [opD, Act.put, sA, sB, sC]
         refine tkH 3 ?_
         try simp only [opD, Act.put, sA, sB, sC]
         refine tkH 4 ?_
         try simp only [opD, Act.put, sA, sB, sC]
         refine tkH 5 ?_
         try simp only [opD, Act.put, sA, sB, sC]
         refine tkH 9 ?_
         try simp only [opD, Act.put, sA, sB, sC]
         refine wpAnyH_ready (rs := [6]) (by kernel_rfl) (by simp) ?_
         refine rdH (fun K hK => ?_) ?nilor16
         case nilor16 => exact AllReadyH.nil
         go_simp
         try rw [hwr]
         (refine (IH m _ _ _ HD4.out ED4.out).mono ?_)
         rintro e w8 hq
         obtain ⟨f8, v8, rfl, h8, hj8, ht8, hgd8, hnd8⟩ := hq.ok hres
         have hag := ht8.agg
         obtain ⟨k0, k1, k2, A0, m0, c0, rfl⟩ := hag
         have hT8 := f8.boxp HD4.out (show w4.drew.heap[w.heap.size]? = _ from T4.out) (by decide) (by decide)
         have hE8 := f8.boxp HD4.out (show w4.drew.heap[w.heap.size + 1]? = _ from X4.out) (by decide) (by decide)
         have hl8 := heap_lt hT8
         have hm8 := heap_lt hE8
         have q8 := (box4t hT8).2.1
         clear hq
         go_wp2_with fail
         refine hK.out _ _ ?Sor16 (fun hH1 => ?restor16)
         case Sor16 => (exact q8)
         clear hK K
         try simp only [Act.put, sA, sB, sC]
         refine wpAnyH_ready (rs := [7]) (by kernel_rfl) (by simp) ?_
         refine rdH (fun K hK => ?_) ?nilor17
         case nilor17 => exact AllReadyH.nil
         go_simp
         refine hK.out _ _ ?Sor17 (fun hH2 => ?restor17)
         case Sor17 => (exact (((Below.refl w8.heap.size w8).alloc (Nat.le_refl _) _).cell (p := ⟨w.heap.size, 1, none⟩) hl8).trans q8)
         clear hK K
         try simp only [Act.put, sA, sB, sC]
         refine wpAnyH_ready (rs := [8]) (by kernel_rfl) (by simp) ?_
         refine rdH (fun K hK => ?_) ?nilor18
         case nilor18 => exact AllReadyH.nil
         go_simp
         (refine (pcell_any ty _ 1 1 _).mono ?_)
         rintro e w9 ⟨rfl, hb9⟩
         have hT9 := (hb9.block w.heap.size (by simp; omega)).trans ((Below.heap_alloc w8 (Obj.cells #[.int .i64 k0, .int .i64 k1, .string k2, .slice A0 m0 c0] 39) _ hl8).trans hT8)
         have hE9 := (hb9.block (w.heap.size + 1) (by simp; omega)).trans ((Below.heap_alloc w8 (Obj.cells #[.int .i64 k0, .int .i64 k1, .string k2, .slice A0 m0 c0] 39) _ hm8).trans hE8)
         have q9 := (box4t hT9).2.1
         have bf : ∀ j, w9.frozen? ⟨w.heap.size + 1, j, none⟩ = false := (fun j => by simp [World.frozen?, hE9])
         obtain ⟨x0, x1, x2, x3⟩ := box4t hE9
         go_wp2_with fail
         refine hK.out _ _ ?Sor18 (fun hH3 => ?restor18)
         case Sor18 => (exact q9)
         clear hK K
         try simp only [Act.put, sA, sB, sC]
         refine wpAnyH_ready (rs := [10]) (by kernel_rfl) (by simp) ?_
         refine rdH (fun K hK => ?_) ?nilor110
         case nilor110 => exact AllReadyH.nil
         go_simp
         refine hK.out _ _ ?Sor110 (fun hH4 => ?restor110)
         case Sor110 => ((simp [World.cell?_setCell_other, q9]; done))
         clear hK K
         try simp only [Act.put, sA, sB, sC]
         refine tkH 11 ?_
         try simp only [opD, Act.put, sA, sB, sC]
         refine wpAnyH_done (by kernel_rfl) ?_ _
         have h8s := f8.size
         have hs9 := hb9.size
         have hin : ∀ b, w4.drew.heap.size ≤ b → w.heap.size ≤ b ∧ b ≠ w.heap.size + 1 := fun b hS => by
          have h7 : w4.heap.size ≤ b := hS
          exact ⟨by omega, by omega⟩
         have hin8 : w.heap.size ≤ w8.heap.size ∧ w8.heap.size ≠ w.heap.size + 1 := ⟨by omega, by omega⟩
         have HV := Lib.hid (show TP w9 (fun b => w.heap.size ≤ b ∧ b ≠ w.heap.size + 1) (oneT ty t8) (.agg #[.int .i64 4, .int .i64 0, .string ty, .slice (some ⟨w8.heap.size, 0, none⟩) 1 1]) from
          ⟨_, _, rfl, Nat.le_refl _, (fun h => by cases h), fun _ => ⟨w8.heap.size, _, _, rfl, hin8, (hb9.block w8.heap.size (by simp)).trans (heap_alloc_new w8 _), fun k hk => by
           obtain rfl : k = 0 := by omega
           exact ⟨_, _, _, _, rfl, rfl, rfl, rfl, ht8.keep fun b cs f hS hb => ⟨(hb9.block b (by simp; have := heap_lt hb; omega)).trans ((Below.heap_alloc _ _ _ (heap_lt hb)).trans hb), hin b hS⟩⟩⟩⟩)
         have H9 := Lib.hid ((h8.alloc (Obj.cells #[.int .i64 k0, .int .i64 k1, .string k2, .slice A0 m0 c0] 39)).below hb9)
         have F9 := Lib.hid (((FD4.out.trans f8).newalloc hB (Obj.cells #[.int .i64 k0, .int .i64 k1, .string k2, .slice A0 m0 c0] 39)).trans (Frp.of_below hb9 (h8.alloc _).base))
         have E9 := Lib.hid hE9
         have HG9 := Lib.hid (show (oneT ty t8).good from ⟨.inr (.inr (.inr ⟨rfl, rfl, HY.out, by omega⟩)), fun i _ => hgd8⟩)
         have HN9 := Lib.hid (show i0 + (oneT ty t8).nodes ≤ j8 by
          have : (oneT ty t8).nodes = 1 + t8.nodes := by simp [oneT, T.nodes, sumTo]
          rw [this]; omega)
         have HJ9 := Lib.hid hj8
         clear hb9 hin hin8 ht8 h8 f8 hgd8 hnd8 hj8 hT8 hT9 hE8
         go_wp2_with fail
         obtain ⟨p0, p1, p2, p3⟩ := box4t (box_put4 E9.out (.int .i64 4) (.int .i64 0) (.string ty) (.slice (some ⟨w8.heap.size, 0, none⟩) 1 1) rfl).1
         refine bodyPost_ret (v := .tuple #[.agg #[.int .i64 4, .int .i64 0, .string ty, .slice (some ⟨w8.heap.size, 0, none⟩) 1 1], .int .i64 p]) (by simp [results, go_sem, p0, p1, p2, p3]) rfl ?_
         exact ret_box2 H9.out F9.out hB E9.out (by omega) HV.out HJ9.out HG9.out HN9.out HR.out
      ·have HRD := Lib.hid (show RS = .ok ((atT ty, 0), i0 + 1, ns) by
        rw [HRP.out, HOP.out]
        exact if_neg fun h => hpm h.1)
       have HC := H3
       have FC := F3
       have XC := X3
       go_wp2_with fail
       refine (pconst_any ty _).mono ?_
       rintro e w6 ⟨rfl, hb6⟩
       have H6 := Lib.hid (HC.out.below hb6)
       have F6 := Lib.hid (FC.out.trans (Frp.of_below hb6 HC.out.base))
       have X6 := Lib.hid ((hb6.block _ (heap_lt XC.out)).trans XC.out)
       obtain ⟨x0, x1, x2, x3⟩ := box4t X6.out
       have xf : ∀ j, w6.frozen? ⟨w.heap.size + 1, j, none⟩ = false := fun j => by simp [World.frozen?, X6.out]
       clear hb6
       go_wp2_with fail
       obtain ⟨p0, p1, p2, p3⟩ := box4t (box_put4 X6.out (.int .i64 3) (.int .i64 0) (.string ty) (.slice none 0 0) rfl).1
       refine bodyPost_ret (v := .tuple #[.agg #[.int .i64 3, .int .i64 0, .string ty, .slice none 0 0], .int .i64 0]) (by simp [results, go_sem, p0, p1, p2, p3]) rfl ?_
       exact ret_box2 H6.out F6.out hB X6.out (by omega) (TP.leaf _ _ 3 0 _) (Nat.le_refl _) (atom_good _ HY.out) (by rw [leaf_nodes]; omega) HRD.out
   | false =>
    have HNB := Lib.hid (show ¬ (ty.toList = [45] ∧ x.k = 3 ∧ x.a = yb) from fun h => by
     rw [h.2.1] at c3
     simp at c3)
    have HRP := Lib.hid (show RS = (match opPre ty with
     | none => .ok ((atT ty, 0), i0 + 1, ns)
     | some (p, m) => if p ≤ most ∧ endsP c.tk c.s.size (i0 + 1) = false then (tm m (i0 + 1) ns).andThen (fun r j ns1 => .ok ((oneT ty r, p), j, ns1)) else .ok ((atT ty, 0), i0 + 1, ns)) by
     rw [← HRS.out]
     unfold namedP
     dsimp only
     rw [show nxT c.tk c.s.size (i0 + 1) = x from HX.out, if_neg k4, if_neg HNB.out]
     rfl)
    clear k4
    have CP := Lib.hid (pprefix_any ty _ (HE.out.fr F2.out).ops)
    go_wp2_with fail
    refine CP.out.mono ?_
    rintro e w3 ⟨⟨p, m, is, rfl, hr⟩, hb3⟩
    have H3 := Lib.hid (H2.out.below hb3)
    have F3 := Lib.hid (F2.out.trans (Frp.of_below hb3 H2.out.base))
    have X3 := Lib.hid ((hb3.block _ (heap_lt X2.out)).trans X2.out)
    have T3 := Lib.hid ((hb3.block _ (heap_lt T2.out)).trans T2.out)
    have HPR := Lib.hid hr.out
    have hs3 : w.heap.size + 2 ≤ w3.heap.size := by have h9 := hb3.size; simp at h9; omega
    obtain ⟨t0, t1, t2, t3⟩ := box4t T3.out
    clear hb3 hr CP s0 s1 s2 s3
    cases is with
    | false =>
     have HRD := Lib.hid (show RS = .ok ((atT ty, 0), i0 + 1, ns) by
      rcases HPR.out with ⟨h, _⟩ | ⟨_, h, _⟩
      ·cases h
      ·rw [HRP.out, h])
     have HC := H3
     have FC := F3
     have XC := X3
     go_wp2_with fail
     refine (pconst_any ty _).mono ?_
     rintro e w6 ⟨rfl, hb6⟩
     have H6 := Lib.hid (HC.out.below hb6)
     have F6 := Lib.hid (FC.out.trans (Frp.of_below hb6 HC.out.base))
     have X6 := Lib.hid ((hb6.block _ (heap_lt XC.out)).trans XC.out)
     obtain ⟨x0, x1, x2, x3⟩ := box4t X6.out
     have xf : ∀ j, w6.frozen? ⟨w.heap.size + 1, j, none⟩ = false := fun j => by simp [World.frozen?, X6.out]
     clear hb6
     go_wp2_with fail
     obtain ⟨p0, p1, p2, p3⟩ := box4t (box_put4 X6.out (.int .i64 3) (.int .i64 0) (.string ty) (.slice none 0 0) rfl).1
     refine bodyPost_ret (v := .tuple #[.agg #[.int .i64 3, .int .i64 0, .string ty, .slice none 0 0], .int .i64 0]) (by simp [results, go_sem, p0, p1, p2, p3]) rfl ?_
     exact ret_box2 H6.out F6.out hB X6.out (by omega) (TP.leaf _ _ 3 0 _) (Nat.le_refl _) (atom_good _ HY.out) (by rw [leaf_nodes]; omega) HRD.out
    | true =>
     have HOP := Lib.hid (show opPre ty = some (p, m) by
      rcases HPR.out with ⟨_, h⟩ | ⟨h, _⟩
      ·exact h
      ·cases h)
     by_cases hpm : p ≤ most
     ·have CA := Lib.hid (palone_any _ H3.out (HE.out.fr F3.out))
      have HAE := Lib.hid (nx_alone H3.out)
      rw [HX.out] at CA HAE
      go_wp2_with fail
      refine CA.out.mono ?_
      rintro e w4 ⟨rfl, hb4⟩
      have H4 := Lib.hid (H3.out.below hb4)
      have F4 := Lib.hid (F3.out.trans (Frp.of_below hb4 H3.out.base))
      have X4 := Lib.hid ((hb4.block _ (heap_lt X3.out)).trans X3.out)
      have T4 := Lib.hid ((hb4.block _ (heap_lt T3.out)).trans T3.out)
      have hs4 : w.heap.size + 2 ≤ w4.heap.size := by have h9 := hb4.size; omega
      obtain ⟨t0, t1, t2, t3⟩ := box4t T4.out
      clear hb4 CA
      cases hal : aloneP x with
      | true =>
       have HRD := Lib.hid (show RS = .ok ((atT ty, 0), i0 + 1, ns) by
        rw [HRP.out, HOP.out]
        exact if_neg fun h => by have h9 := h.2; rw [← HAE.out, hal] at h9; cases h9)
       have HC := H4
       have FC := F4
       have XC := X4
       clear hal
       go_wp2_with fail
       refine (pconst_any ty _).mono ?_
       rintro e w6 ⟨rfl, hb6⟩
       have H6 := Lib.hid (HC.out.below hb6)
       have F6 := Lib.hid (FC.out.trans (Frp.of_below hb6 HC.out.base))
       have X6 := Lib.hid ((hb6.block _ (heap_lt XC.out)).trans XC.out)
       obtain ⟨x0, x1, x2, x3⟩ := box4t X6.out
       have xf : ∀ j, w6.frozen? ⟨w.heap.size + 1, j, none⟩ = false := fun j => by simp [World.frozen?, X6.out]
       clear hb6
       go_wp2_with fail
       obtain ⟨p0, p1, p2, p3⟩ := box4t (box_put4 X6.out (.int .i64 3) (.int .i64 0) (.string ty) (.slice none 0 0) rfl).1
       refine bodyPost_ret (v := .tuple #[.agg #[.int .i64 3, .int .i64 0, .string ty, .slice none 0 0], .int .i64 0]) (by simp [results, go_sem, p0, p1, p2, p3]) rfl ?_
       exact ret_box2 H6.out F6.out hB X6.out (by omega) (TP.leaf _ _ 3 0 _) (Nat.le_refl _) (atom_good _ HY.out) (by rw [leaf_nodes]; omega) HRD.out
      | false =>
       have HRC := Lib.hid (show RS = (tm m (i0 + 1) ns).andThen fun r j ns1 => .ok ((oneT ty r, p), j, ns1) by
        rw [HRP.out, HOP.out]
        exact if_pos ⟨hpm, by rw [← HAE.out, hal]⟩)
       clear hal
       go_wp2_with fail
       have hwr : IntKind.i64.wrap ((D : Int) + 1) = (D : Int) + 1 := by
        rw [IntKind.wrap_i64]
        omega
       have qd : w4.drew.cell? ⟨w.heap.size, 1, none⟩ = some (.string ty) := t1
       have BD := Lib.hid ((Below.refl w4.heap.size w4).drew)
       have HD4 := Lib.hid (H4.out.below BD.out)
       have FD4 := Lib.hid (F4.out.trans (Frp.of_below BD.out H4.out.base))
       have ED4 := Lib.hid (HE.out.fr FD4.out)
       clear H1 T1 X1 F1 B1 B2 H2 F2 K2 T2 X2 H3 F3 X3 T3 H
       cases hres : tm m (i0 + 1) ns with
       | error pk =>
        obtain ⟨p', k'⟩ := pk
        have HR := Lib.hid (show RS = .error (p', k') by rw [HRC.out, hres]; rfl)
        refine wp_region_held_drew (S := fun w1 => w1.cell? ⟨w.heap.size, 1, none⟩ = some (.string ty)) (by kernel_rfl) ?Ser2 (fun hH0 => ?Ber2)
        case Ser2 => (exact qd)
        refine tkH 0 ?_
        try simp only [opD, Act.put, sA, sB, sC]
        refine tkH 1 ?_
        try simp only [opD, Act.put, sA, sB, sC]
        refine tkH 2 ?_
        try simp only [opD, Act.put, sA, sB, sC]
        refine tkH 3 ?_
        try simp only [opD, Act.put, sA, sB, sC]
        refine tkH 4 ?_
        try simp only [opD, Act.put, sA, sB, sC]
        refine tkH 5 ?_
        try simp only [opD, Act.put, sA, sB, sC]
        refine tkH 9 ?_
        try simp only [opD, Act.put, sA, sB, sC]
        refine wpAnyH_ready (rs := [6]) (by kernel_rfl) (by simp) ?_
        refine rdH (fun K hK => ?_) AllReadyH.nil
        go_simp
        try rw [hwr]
        refine (IH m _ _ _ HD4.out ED4.out).mono ?_
        rintro e w8 hq
        obtain ⟨f8, rfl⟩ := hq.err hres
        refine ⟨rfl, ?_⟩
        rw [HR.out]
        exact ⟨FD4.out.trans f8, rfl⟩
       | ok yy =>
        obtain ⟨t8, j8, ns8⟩ := yy
        have HR := Lib.hid (show RS = .ok ((oneT ty t8, p), j8, ns8) by rw [HRC.out, hres]; rfl)
        refine wp_region_held_drew (S := fun w1 => w1.cell? ⟨w.heap.size, 1, none⟩ = some (.string ty)) (by kernel_rfl) ?Sor2 (fun hH0 => ?Bor2)
        case Sor2 => (exact qd)
        refine tkH 0 ?_
        try simp only [opD, Act.put, sA, sB, sC]
        refine tkH 1 ?_
        try simp only [opD, Act.put, sA, sB, sC]
        refine tkH 2 ?_
        try simp only [opD, Act.put, sA, sB, sC]
        refine tkH 3 ?_
        try simp only [opD, Act.put, sA, sB, sC]
        refine tkH 4 ?_
        try simp only [opD, Act.put, sA, sB, sC]
        refine tkH 5 ?_
        try simp only [opD, Act.put, sA, sB, sC]
        refine tkH 9 ?_
        try simp only [opD, Act.put, sA, sB, sC]
        refine wpAnyH_ready (rs := [6]) (by kernel_rfl) (by simp) ?_
        refine rdH (fun K hK => ?_) ?nilor26
        case nilor26 => exact AllReadyH.nil
        go_simp
        try rw [hwr]
        (refine (IH m _ _ _ HD4.out ED4.out).mono ?_)
        rintro e w8 hq
        obtain ⟨f8, v8, rfl, h8, hj8, ht8, hgd8, hnd8⟩ := hq.ok hres
        have hag := ht8.agg
        obtain ⟨k0, k1, k2, A0, m0, c0, rfl⟩ := hag
        have hT8 := f8.boxp HD4.out (show w4.drew.heap[w.heap.size]? = _ from T4.out) (by decide) (by decide)
        have hE8 := f8.boxp HD4.out (show w4.drew.heap[w.heap.size + 1]? = _ from X4.out) (by decide) (by decide)
        have hl8 := heap_lt hT8
        have hm8 := heap_lt hE8
        have q8 := (box4t hT8).2.1
        clear hq
        go_wp2_with fail
        refine hK.out _ _ ?Sor26 (fun hH1 => ?restor26)
        case Sor26 => (exact q8)
        clear hK K
        try simp only [Act.put, sA, sB, sC]
        refine wpAnyH_ready (rs := [7]) (by kernel_rfl) (by simp) ?_
        refine rdH (fun K hK => ?_) ?nilor27
        case nilor27 => exact AllReadyH.nil
        go_simp
        refine hK.out _ _ ?Sor27 (fun hH2 => ?restor27)
        case Sor27 => (exact (((Below.refl w8.heap.size w8).alloc (Nat.le_refl _) _).cell (p := ⟨w.heap.size, 1, none⟩) hl8).trans q8)
        clear hK K
        try simp only [Act.put, sA, sB, sC]
        refine wpAnyH_ready (rs := [8]) (by kernel_rfl) (by simp) ?_
        refine rdH (fun K hK => ?_) ?nilor28
        case nilor28 => exact AllReadyH.nil
        go_simp
        (refine (pcell_any ty _ 1 1 _).mono ?_)
        rintro e w9 ⟨rfl, hb9⟩
        have hT9 := (hb9.block w.heap.size (by simp; omega)).trans ((Below.heap_alloc w8 (Obj.cells #[.int .i64 k0, .int .i64 k1, .string k2, .slice A0 m0 c0] 39) _ hl8).trans hT8)
        have hE9 := (hb9.block (w.heap.size + 1) (by simp; omega)).trans ((Below.heap_alloc w8 (Obj.cells #[.int .i64 k0, .int .i64 k1, .string k2, .slice A0 m0 c0] 39) _ hm8).trans hE8)
        have q9 := (box4t hT9).2.1
        have bf : ∀ j, w9.frozen? ⟨w.heap.size + 1, j, none⟩ = false := (fun j => by simp [World.frozen?, hE9])
        obtain ⟨x0, x1, x2, x3⟩ := box4t hE9
        go_wp2_with fail
        refine hK.out _ _ ?Sor28 (fun hH3 => ?restor28)
        case Sor28 => (exact q9)
        clear hK K
        try simp only [Act.put, sA, sB, sC]
        refine wpAnyH_ready (rs := [10]) (by kernel_rfl) (by simp) ?_
        refine rdH (fun K hK => ?_) ?nilor210
        case nilor210 => exact AllReadyH.nil
        go_simp
        refine hK.out _ _ ?Sor210 (fun hH4 => ?restor210)
        case Sor210 => ((simp [World.cell?_setCell_other, q9]; done))
        clear hK K
        try simp only [Act.put, sA, sB, sC]
        refine tkH 11 ?_
        try simp only [opD, Act.put, sA, sB, sC]
        refine wpAnyH_done (by kernel_rfl) ?_ _
        have h8s := f8.size
        have hs9 := hb9.size
        have hin : ∀ b, w4.drew.heap.size ≤ b → w.heap.size ≤ b ∧ b ≠ w.heap.size + 1 := fun b hS => by
         have h7 : w4.heap.size ≤ b := hS
         exact ⟨by omega, by omega⟩
        have hin8 : w.heap.size ≤ w8.heap.size ∧ w8.heap.size ≠ w.heap.size + 1 := ⟨by omega, by omega⟩
        have HV := Lib.hid (show TP w9 (fun b => w.heap.size ≤ b ∧ b ≠ w.heap.size + 1) (oneT ty t8) (.agg #[.int .i64 4, .int .i64 0, .string ty, .slice (some ⟨w8.heap.size, 0, none⟩) 1 1]) from
         ⟨_, _, rfl, Nat.le_refl _, (fun h => by cases h), fun _ => ⟨w8.heap.size, _, _, rfl, hin8, (hb9.block w8.heap.size (by simp)).trans (heap_alloc_new w8 _), fun k hk => by
          obtain rfl : k = 0 := by omega
          exact ⟨_, _, _, _, rfl, rfl, rfl, rfl, ht8.keep fun b cs f hS hb => ⟨(hb9.block b (by simp; have := heap_lt hb; omega)).trans ((Below.heap_alloc _ _ _ (heap_lt hb)).trans hb), hin b hS⟩⟩⟩⟩)
        have H9 := Lib.hid ((h8.alloc (Obj.cells #[.int .i64 k0, .int .i64 k1, .string k2, .slice A0 m0 c0] 39)).below hb9)
        have F9 := Lib.hid (((FD4.out.trans f8).newalloc hB (Obj.cells #[.int .i64 k0, .int .i64 k1, .string k2, .slice A0 m0 c0] 39)).trans (Frp.of_below hb9 (h8.alloc _).base))
        have E9 := Lib.hid hE9
        have HG9 := Lib.hid (show (oneT ty t8).good from ⟨.inr (.inr (.inr ⟨rfl, rfl, HY.out, by omega⟩)), fun i _ => hgd8⟩)
        have HN9 := Lib.hid (show i0 + (oneT ty t8).nodes ≤ j8 by
         have : (oneT ty t8).nodes = 1 + t8.nodes := by simp [oneT, T.nodes, sumTo]
         rw [this]; omega)
        have HJ9 := Lib.hid hj8
        clear hb9 hin hin8 ht8 h8 f8 hgd8 hnd8 hj8 hT8 hT9 hE8
        go_wp2_with fail
        obtain ⟨p0, p1, p2, p3⟩ := box4t (box_put4 E9.out (.int .i64 4) (.int .i64 0) (.string ty) (.slice (some ⟨w8.heap.size, 0, none⟩) 1 1) rfl).1
        refine bodyPost_ret (v := .tuple #[.agg #[.int .i64 4, .int .i64 0, .string ty, .slice (some ⟨w8.heap.size, 0, none⟩) 1 1], .int .i64 p]) (by simp [results, go_sem, p0, p1, p2, p3]) rfl ?_
        exact ret_box2 H9.out F9.out hB E9.out (by omega) HV.out HJ9.out HG9.out HN9.out HR.out
     ·have HRD := Lib.hid (show RS = .ok ((atT ty, 0), i0 + 1, ns) by
       rw [HRP.out, HOP.out]
       exact if_neg fun h => hpm h.1)
      have HC := H3
      have FC := F3
      have XC := X3
      go_wp2_with fail
      refine (pconst_any ty _).mono ?_
      rintro e w6 ⟨rfl, hb6⟩
      have H6 := Lib.hid (HC.out.below hb6)
      have F6 := Lib.hid (FC.out.trans (Frp.of_below hb6 HC.out.base))
      have X6 := Lib.hid ((hb6.block _ (heap_lt XC.out)).trans XC.out)
      obtain ⟨x0, x1, x2, x3⟩ := box4t X6.out
      have xf : ∀ j, w6.frozen? ⟨w.heap.size + 1, j, none⟩ = false := fun j => by simp [World.frozen?, X6.out]
      clear hb6
      go_wp2_with fail
      obtain ⟨p0, p1, p2, p3⟩ := box4t (box_put4 X6.out (.int .i64 3) (.int .i64 0) (.string ty) (.slice none 0 0) rfl).1
      refine bodyPost_ret (v := .tuple #[.agg #[.int .i64 3, .int .i64 0, .string ty, .slice none 0 0], .int .i64 0]) (by simp [results, go_sem, p0, p1, p2, p3]) rfl ?_
      exact ret_box2 H6.out F6.out hB X6.out (by omega) (TP.leaf _ _ 3 0 _) (Nat.le_refl _) (atom_good _ HY.out) (by rw [leaf_nodes]; omega) HRD.out
  | false =>
   have HNB := Lib.hid (show ¬ (ty.toList = [45] ∧ x.k = 3 ∧ x.a = yb) from fun h => by
    rw [h.1] at c45
    simp at c45)
   have HRP := Lib.hid (show RS = (match opPre ty with
    | none => .ok ((atT ty, 0), i0 + 1, ns)
    | some (p, m) => if p ≤ most ∧ endsP c.tk c.s.size (i0 + 1) = false then (tm m (i0 + 1) ns).andThen (fun r j ns1 => .ok ((oneT ty r, p), j, ns1)) else .ok ((atT ty, 0), i0 + 1, ns)) by
    rw [← HRS.out]
    unfold namedP
    dsimp only
    rw [show nxT c.tk c.s.size (i0 + 1) = x from HX.out, if_neg k4, if_neg HNB.out]
    rfl)
   clear k4
   have CP := Lib.hid (pprefix_any ty _ (HE.out.fr F2.out).ops)
   go_wp2_with fail
   refine CP.out.mono ?_
   rintro e w3 ⟨⟨p, m, is, rfl, hr⟩, hb3⟩
   have H3 := Lib.hid (H2.out.below hb3)
   have F3 := Lib.hid (F2.out.trans (Frp.of_below hb3 H2.out.base))
   have X3 := Lib.hid ((hb3.block _ (heap_lt X2.out)).trans X2.out)
   have T3 := Lib.hid ((hb3.block _ (heap_lt T2.out)).trans T2.out)
   have HPR := Lib.hid hr.out
   have hs3 : w.heap.size + 2 ≤ w3.heap.size := by have h9 := hb3.size; simp at h9; omega
   obtain ⟨t0, t1, t2, t3⟩ := box4t T3.out
   clear hb3 hr CP s0 s1 s2 s3
   cases is with
   | false =>
    have HRD := Lib.hid (show RS = .ok ((atT ty, 0), i0 + 1, ns) by
     rcases HPR.out with ⟨h, _⟩ | ⟨_, h, _⟩
     ·cases h
     ·rw [HRP.out, h])
    have HC := H3
    have FC := F3
    have XC := X3
    go_wp2_with fail
    refine (pconst_any ty _).mono ?_
    rintro e w6 ⟨rfl, hb6⟩
    have H6 := Lib.hid (HC.out.below hb6)
    have F6 := Lib.hid (FC.out.trans (Frp.of_below hb6 HC.out.base))
    have X6 := Lib.hid ((hb6.block _ (heap_lt XC.out)).trans XC.out)
    obtain ⟨x0, x1, x2, x3⟩ := box4t X6.out
    have xf : ∀ j, w6.frozen? ⟨w.heap.size + 1, j, none⟩ = false := fun j => by simp [World.frozen?, X6.out]
    clear hb6
    go_wp2_with fail
    obtain ⟨p0, p1, p2, p3⟩ := box4t (box_put4 X6.out (.int .i64 3) (.int .i64 0) (.string ty) (.slice none 0 0) rfl).1
    refine bodyPost_ret (v := .tuple #[.agg #[.int .i64 3, .int .i64 0, .string ty, .slice none 0 0], .int .i64 0]) (by simp [results, go_sem, p0, p1, p2, p3]) rfl ?_
    exact ret_box2 H6.out F6.out hB X6.out (by omega) (TP.leaf _ _ 3 0 _) (Nat.le_refl _) (atom_good _ HY.out) (by rw [leaf_nodes]; omega) HRD.out
   | true =>
    have HOP := Lib.hid (show opPre ty = some (p, m) by
     rcases HPR.out with ⟨_, h⟩ | ⟨h, _⟩
     ·exact h
     ·cases h)
    by_cases hpm : p ≤ most
    ·have CA := Lib.hid (palone_any _ H3.out (HE.out.fr F3.out))
     have HAE := Lib.hid (nx_alone H3.out)
     rw [HX.out] at CA HAE
     go_wp2_with fail
     refine CA.out.mono ?_
     rintro e w4 ⟨rfl, hb4⟩
     have H4 := Lib.hid (H3.out.below hb4)
     have F4 := Lib.hid (F3.out.trans (Frp.of_below hb4 H3.out.base))
     have X4 := Lib.hid ((hb4.block _ (heap_lt X3.out)).trans X3.out)
     have T4 := Lib.hid ((hb4.block _ (heap_lt T3.out)).trans T3.out)
     have hs4 : w.heap.size + 2 ≤ w4.heap.size := by have h9 := hb4.size; omega
     obtain ⟨t0, t1, t2, t3⟩ := box4t T4.out
     clear hb4 CA
     cases hal : aloneP x with
     | true =>
      have HRD := Lib.hid (show RS = .ok ((atT ty, 0), i0 + 1, ns) by
       rw [HRP.out, HOP.out]
       exact if_neg fun h => by have h9 := h.2; rw [← HAE.out, hal] at h9; cases h9)
      have HC := H4
      have FC := F4
      have XC := X4
      clear hal
      go_wp2_with fail
      refine (pconst_any ty _).mono ?_
      rintro e w6 ⟨rfl, hb6⟩
      have H6 := Lib.hid (HC.out.below hb6)
      have F6 := Lib.hid (FC.out.trans (Frp.of_below hb6 HC.out.base))
      have X6 := Lib.hid ((hb6.block _ (heap_lt XC.out)).trans XC.out)
      obtain ⟨x0, x1, x2, x3⟩ := box4t X6.out
      have xf : ∀ j, w6.frozen? ⟨w.heap.size + 1, j, none⟩ = false := fun j => by simp [World.frozen?, X6.out]
      clear hb6
      go_wp2_with fail
      obtain ⟨p0, p1, p2, p3⟩ := box4t (box_put4 X6.out (.int .i64 3) (.int .i64 0) (.string ty) (.slice none 0 0) rfl).1
      refine bodyPost_ret (v := .tuple #[.agg #[.int .i64 3, .int .i64 0, .string ty, .slice none 0 0], .int .i64 0]) (by simp [results, go_sem, p0, p1, p2, p3]) rfl ?_
      exact ret_box2 H6.out F6.out hB X6.out (by omega) (TP.leaf _ _ 3 0 _) (Nat.le_refl _) (atom_good _ HY.out) (by rw [leaf_nodes]; omega) HRD.out
     | false =>
      have HRC := Lib.hid (show RS = (tm m (i0 + 1) ns).andThen fun r j ns1 => .ok ((oneT ty r, p), j, ns1) by
       rw [HRP.out, HOP.out]
       exact if_pos ⟨hpm, by rw [← HAE.out, hal]⟩)
      clear hal
      go_wp2_with fail
      have hwr : IntKind.i64.wrap ((D : Int) + 1) = (D : Int) + 1 := by
       rw [IntKind.wrap_i64]
       omega
      have qd : w4.drew.cell? ⟨w.heap.size, 1, none⟩ = some (.string ty) := t1
      have BD := Lib.hid ((Below.refl w4.heap.size w4).drew)
      have HD4 := Lib.hid (H4.out.below BD.out)
      have FD4 := Lib.hid (F4.out.trans (Frp.of_below BD.out H4.out.base))
      have ED4 := Lib.hid (HE.out.fr FD4.out)
      clear H1 T1 X1 F1 B1 B2 H2 F2 K2 T2 X2 H3 F3 X3 T3 H
      cases hres : tm m (i0 + 1) ns with
      | error pk =>
       obtain ⟨p', k'⟩ := pk
       have HR := Lib.hid (show RS = .error (p', k') by rw [HRC.out, hres]; rfl)
       refine wp_region_held_drew (S := fun w1 => w1.cell? ⟨w.heap.size, 1, none⟩ = some (.string ty)) (by kernel_rfl) ?Ser3 (fun hH0 => ?Ber3)
       case Ser3 => (exact qd)
       refine tkH 0 ?_
       try simp only [opD, Act.put, sA, sB, sC]
       refine tkH 1 ?_
       try simp only [opD, Act.put, sA, sB, sC]
       refine tkH 2 ?_
       try simp only [opD, Act.put, sA, sB, sC]
       refine tkH 3 ?_
       try simp only [opD, Act.put, sA, sB, sC]
       refine tkH 4 ?_
       try simp only [opD, Act.put, sA, sB, sC]
       refine tkH 5 ?_
       try simp only [opD, Act.put, sA, sB, sC]
       refine tkH 9 ?_
       try simp only [opD, Act.put, sA, sB, sC]
       refine wpAnyH_ready (rs := [6]) (by kernel_rfl) (by simp) ?_
       refine rdH (fun K hK => ?_) AllReadyH.nil
       go_simp
       try rw [hwr]
       refine (IH m _ _ _ HD4.out ED4.out).mono ?_
       rintro e w8 hq
       obtain ⟨f8, rfl⟩ := hq.err hres
       refine ⟨rfl, ?_⟩
       rw [HR.out]
       exact ⟨FD4.out.trans f8, rfl⟩
      | ok yy =>
       obtain ⟨t8, j8, ns8⟩ := yy
       have HR := Lib.hid (show RS = .ok ((oneT ty t8, p), j8, ns8) by rw [HRC.out, hres]; rfl)
       refine wp_region_held_drew (S := fun w1 => w1.cell? ⟨w.heap.size, 1, none⟩ = some (.string ty)) (by kernel_rfl) ?Sor3 (fun hH0 => ?Bor3)
       case Sor3 => (exact qd)
       refine tkH 0 ?_
       try simp only [opD, Act.put, sA, sB, sC]
       refine tkH 1 ?_
       try simp only [opD, Act.put, sA, sB, sC]
       refine tkH 2 ?_
       try simp only [opD, Act.put, sA, sB, sC]
       refine tkH 3 ?_
       try simp only [opD, Act.put, sA, sB, sC]
       refine tkH 4 ?_
       try simp only [opD, Act.put, sA, sB, sC]
       refine tkH 5 ?_
       try simp only [opD, Act.put, sA, sB, sC]
       refine tkH 9 ?_
       try simp only [opD, Act.put, sA, sB, sC]
       refine wpAnyH_ready (rs := [6]) (by kernel_rfl) (by simp) ?_
       refine rdH (fun K hK => ?_) ?nilor36
       case nilor36 => exact AllReadyH.nil
       go_simp
       try rw [hwr]
       (refine (IH m _ _ _ HD4.out ED4.out).mono ?_)
       rintro e w8 hq
       obtain ⟨f8, v8, rfl, h8, hj8, ht8, hgd8, hnd8⟩ := hq.ok hres
       have hag := ht8.agg
       obtain ⟨k0, k1, k2, A0, m0, c0, rfl⟩ := hag
       have hT8 := f8.boxp HD4.out (show w4.drew.heap[w.heap.size]? = _ from T4.out) (by decide) (by decide)
       have hE8 := f8.boxp HD4.out (show w4.drew.heap[w.heap.size + 1]? = _ from X4.out) (by decide) (by decide)
       have hl8 := heap_lt hT8
       have hm8 := heap_lt hE8
       have q8 := (box4t hT8).2.1
       clear hq
       go_wp2_with fail
       refine hK.out _ _ ?Sor36 (fun hH1 => ?restor36)
       case Sor36 => (exact q8)
       clear hK K
       try simp only [Act.put, sA, sB, sC]
       refine wpAnyH_ready (rs := [7]) (by kernel_rfl) (by simp) ?_
       refine rdH (fun K hK => ?_) ?nilor37
       case nilor37 => exact AllReadyH.nil
       go_simp
       refine hK.out _ _ ?Sor37 (fun hH2 => ?restor37)
       case Sor37 => (exact (((Below.refl w8.heap.size w8).alloc (Nat.le_refl _) _).cell (p := ⟨w.heap.size, 1, none⟩) hl8).trans q8)
       clear hK K
       try simp only [Act.put, sA, sB, sC]
       refine wpAnyH_ready (rs := [8]) (by kernel_rfl) (by simp) ?_
       refine rdH (fun K hK => ?_) ?nilor38
       case nilor38 => exact AllReadyH.nil
       go_simp
       (refine (pcell_any ty _ 1 1 _).mono ?_)
       rintro e w9 ⟨rfl, hb9⟩
       have hT9 := (hb9.block w.heap.size (by simp; omega)).trans ((Below.heap_alloc w8 (Obj.cells #[.int .i64 k0, .int .i64 k1, .string k2, .slice A0 m0 c0] 39) _ hl8).trans hT8)
       have hE9 := (hb9.block (w.heap.size + 1) (by simp; omega)).trans ((Below.heap_alloc w8 (Obj.cells #[.int .i64 k0, .int .i64 k1, .string k2, .slice A0 m0 c0] 39) _ hm8).trans hE8)
       have q9 := (box4t hT9).2.1
       have bf : ∀ j, w9.frozen? ⟨w.heap.size + 1, j, none⟩ = false := (fun j => by simp [World.frozen?, hE9])
       obtain ⟨x0, x1, x2, x3⟩ := box4t hE9
       go_wp2_with fail
       refine hK.out _ _ ?Sor38 (fun hH3 => ?restor38)
       case Sor38 => (exact q9)
       clear hK K
       try simp only [Act.put, sA, sB, sC]
       refine wpAnyH_ready (rs := [10]) (by kernel_rfl) (by simp) ?_
       refine rdH (fun K hK => ?_) ?nilor310
       case nilor310 => exact AllReadyH.nil
       go_simp
       refine hK.out _ _ ?Sor310 (fun hH4 => ?restor310)
       case Sor310 => ((simp [World.cell?_setCell_other, q9]; done))
       clear hK K
       try simp only [Act.put, sA, sB, sC]
       refine tkH 11 ?_
       try simp only [opD, Act.put, sA, sB, sC]
       refine wpAnyH_done (by kernel_rfl) ?_ _
       have h8s := f8.size
       have hs9 := hb9.size
       have hin : ∀ b, w4.drew.heap.size ≤ b → w.heap.size ≤ b ∧ b ≠ w.heap.size + 1 := fun b hS => by
        have h7 : w4.heap.size ≤ b := hS
        exact ⟨by omega, by omega⟩
       have hin8 : w.heap.size ≤ w8.heap.size ∧ w8.heap.size ≠ w.heap.size + 1 := ⟨by omega, by omega⟩
       have HV := Lib.hid (show TP w9 (fun b => w.heap.size ≤ b ∧ b ≠ w.heap.size + 1) (oneT ty t8) (.agg #[.int .i64 4, .int .i64 0, .string ty, .slice (some ⟨w8.heap.size, 0, none⟩) 1 1]) from
        ⟨_, _, rfl, Nat.le_refl _, (fun h => by cases h), fun _ => ⟨w8.heap.size, _, _, rfl, hin8, (hb9.block w8.heap.size (by simp)).trans (heap_alloc_new w8 _), fun k hk => by
         obtain rfl : k = 0 := by omega
         exact ⟨_, _, _, _, rfl, rfl, rfl, rfl, ht8.keep fun b cs f hS hb => ⟨(hb9.block b (by simp; have := heap_lt hb; omega)).trans ((Below.heap_alloc _ _ _ (heap_lt hb)).trans hb), hin b hS⟩⟩⟩⟩)
       have H9 := Lib.hid ((h8.alloc (Obj.cells #[.int .i64 k0, .int .i64 k1, .string k2, .slice A0 m0 c0] 39)).below hb9)
       have F9 := Lib.hid (((FD4.out.trans f8).newalloc hB (Obj.cells #[.int .i64 k0, .int .i64 k1, .string k2, .slice A0 m0 c0] 39)).trans (Frp.of_below hb9 (h8.alloc _).base))
       have E9 := Lib.hid hE9
       have HG9 := Lib.hid (show (oneT ty t8).good from ⟨.inr (.inr (.inr ⟨rfl, rfl, HY.out, by omega⟩)), fun i _ => hgd8⟩)
       have HN9 := Lib.hid (show i0 + (oneT ty t8).nodes ≤ j8 by
        have : (oneT ty t8).nodes = 1 + t8.nodes := by simp [oneT, T.nodes, sumTo]
        rw [this]; omega)
       have HJ9 := Lib.hid hj8
       clear hb9 hin hin8 ht8 h8 f8 hgd8 hnd8 hj8 hT8 hT9 hE8
       go_wp2_with fail
       obtain ⟨p0, p1, p2, p3⟩ := box4t (box_put4 E9.out (.int .i64 4) (.int .i64 0) (.string ty) (.slice (some ⟨w8.heap.size, 0, none⟩) 1 1) rfl).1
       refine bodyPost_ret (v := .tuple #[.agg #[.int .i64 4, .int .i64 0, .string ty, .slice (some ⟨w8.heap.size, 0, none⟩) 1 1], .int .i64 p]) (by simp [results, go_sem, p0, p1, p2, p3]) rfl ?_
       exact ret_box2 H9.out F9.out hB E9.out (by omega) HV.out HJ9.out HG9.out HN9.out HR.out
    ·have HRD := Lib.hid (show RS = .ok ((atT ty, 0), i0 + 1, ns) by
      rw [HRP.out, HOP.out]
      exact if_neg fun h => hpm h.1)
     have HC := H3
     have FC := F3
     have XC := X3
     go_wp2_with fail
     refine (pconst_any ty _).mono ?_
     rintro e w6 ⟨rfl, hb6⟩
     have H6 := Lib.hid (HC.out.below hb6)
     have F6 := Lib.hid (FC.out.trans (Frp.of_below hb6 HC.out.base))
     have X6 := Lib.hid ((hb6.block _ (heap_lt XC.out)).trans XC.out)
     obtain ⟨x0, x1, x2, x3⟩ := box4t X6.out
     have xf : ∀ j, w6.frozen? ⟨w.heap.size + 1, j, none⟩ = false := fun j => by simp [World.frozen?, X6.out]
     clear hb6
     go_wp2_with fail
     obtain ⟨p0, p1, p2, p3⟩ := box4t (box_put4 X6.out (.int .i64 3) (.int .i64 0) (.string ty) (.slice none 0 0) rfl).1
     refine bodyPost_ret (v := .tuple #[.agg #[.int .i64 3, .int .i64 0, .string ty, .slice none 0 0], .int .i64 0]) (by simp [results, go_sem, p0, p1, p2, p3]) rfl ?_
     exact ret_box2 H6.out F6.out hB X6.out (by omega) (TP.leaf _ _ 3 0 _) (Nat.le_refl _) (atom_good _ HY.out) (by rw [leaf_nodes]; omega) HRD.out
end Go.Proofs.YtibcpdmeigdgpaaGreatDoor
