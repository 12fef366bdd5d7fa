/- The program's parser: a term. -/
import Derived.Test.YtibcpdmeigdgpaaGreatDoorKOrd
import Derived.Test.YtibcpdmeigdgpaaGreatDoorKHp
namespace Go.Proofs.YtibcpdmeigdgpaaGreatDoor
open Go.RowKit
set_option maxRecDepth 100000 in
set_option maxHeartbeats 16000000 in
theorem pterm_step (c : Rdc) (D d : Nat) (hDd : D + d = 65) (IH : ∀ d', d' < d → PTermC c ((65 - d' : Nat) : Int) (termP c.tk c.s.size d')) : PTermC c (D : Int) (termP c.tk c.s.size d) := by
 intro most w i ns h hev
 have hB := h.base
 have H := Lib.hid h
 have HE := Lib.hid hev
 clear h hev
 obtain ⟨RS, hRS⟩ : ∃ RS, termP c.tk c.s.size d most i ns = RS := ⟨_, rfl⟩
 rw [hRS]
 have HRS := Lib.hid hRS
 clear hRS
 have hmf : ∀ (fn : Fn) (first cap : Array Value) (w : World), (Instr.makeFunc fn first cap).run Tryz.prog w = .ok (.func fn first cap) w := fun _ _ _ _ => rfl
 obtain ⟨W5, hW5⟩ : ∃ W5, (((((w.alloc (Obj.cells #[.pointer (some ⟨c.R, 0, none⟩)] 68)).alloc (Obj.cells #[.int .i64 most] 3)).alloc (Obj.cells #[.int .i64 (D : Int)] 3)).alloc (Obj.cells #[.int .i64 0, .int .i64 0, .string ⟨#[]⟩, .slice none 0 0] 39)).alloc (Obj.cells #[.slice none 0 0] 111)) = W5 := ⟨_, rfl⟩
 obtain ⟨hs5, b0, b1, b2, b3, b4, bel5⟩ := five_boxes w W5 _ _ _ _ _ _ _ _ hW5
 have F5 := Lib.hid (Frp.of_below bel5 hB)
 have H5 := Lib.hid (H.out.below bel5)
 have E5 := Lib.hid (HE.out.fr F5.out)
 have C5 := Lib.hid (show Cb W5 c (w.heap.size + 1 + 1) (w.heap.size + 1 + 1 + 1 + 1) w.heap.size (w.heap.size + 1) (D : Int) most (.slice none 0 0) from ⟨b2, b4, b0, b1⟩)
 have R5 := Lib.hid b3
 have HW5 := Lib.hid hW5
 clear b0 b1 b2 b3 b4 bel5 hW5
 cases d with
 | zero =>
  have HR := Lib.hid (show RS = .error (((nx c i).a : Int), 52) from HRS.out.symm)
  have CN := Lib.hid (penter_no D 0 0 none W5 i ns H5.out C5.out (by omega) (by omega) (by omega))
  go_enter Tryz.func36, Tryz.ntmps36
  go_wp2_with fail
  rw [HW5.out]
  refine CN.out.mono ?_
  rintro e w6 ⟨rfl, f6⟩
  have F6 := Lib.hid (F5.out.trans f6)
  clear f6 CN
  go_wp2_with fail
  refine ⟨rfl, ?_⟩
  rw [HR.out]
  exact ⟨F6.out, rfl⟩
 | succ d =>
  have CO := Lib.hid (penter_ok (tm := termP c.tk c.s.size d) D 0 0 none (by
   have h1 := IH d (by omega)
   rw [show ((65 - d : Nat) : Int) = ((D + 0 : Nat) : Int) + 1 by omega] at h1
   exact h1) W5 i ns H5.out E5.out C5.out (by omega))
  go_enter Tryz.func36, Tryz.ntmps36
  go_wp2_with fail
  rw [HW5.out]
  refine CO.out.mono ?_
  rintro e w6 hq
  cases hres : operandP c.tk c.s.size (termP c.tk c.s.size d) most i ns with
  | error pk =>
   obtain ⟨p, k⟩ := pk
   obtain ⟨f6, rfl⟩ := hq.err hres
   have HR := Lib.hid (show RS = .error (p, k) by rw [← HRS.out, termP, hres]; rfl)
   have F6 := Lib.hid (F5.out.trans f6)
   clear hq hres f6 CO
   go_wp2_with fail
   refine ⟨rfl, ?_⟩
   rw [HR.out]
   exact ⟨F6.out, rfl⟩
  | ok yy =>
   obtain ⟨⟨t, pr⟩, j, ns6⟩ := yy
   obtain ⟨f6, v, rfl, h6, hj, tv, rfl, ht, hgood, hnod⟩ := hq.ok hres
   obtain ⟨k0, k1, k2, A0, m0, c0, rfl⟩ := ht.agg
   have hs6 := f6.size
   have bA := (Below.refl w6.heap.size w6).alloc (Nat.le_refl _) (Obj.cells #[.int .i64 k0, .int .i64 k1, .string k2, .slice A0 m0 c0] 39)
   have fA := f6.trans (Frp.of_below bA h6.base)
   have M0 := Lib.hid (show TmM c w (w6.alloc (Obj.cells #[.int .i64 k0, .int .i64 k1, .string k2, .slice A0 m0 c0] 39)) D j [] t k0 k1 k2 A0 m0 c0 most ns6 none 0 w6.heap.size from
    ⟨C5.out.fr fA H5.out, fA.boxp H5.out R5.out (by decide) (by decide), heap_alloc_new _ _, by omega, ht.keep fun b cs f hS hb => ⟨(Below.heap_alloc _ _ _ (heap_lt hb)).trans hb, by omega, by have := heap_lt hb; omega⟩, World.ownsRow_nil _ _ _ _, (fun e he => by cases he), h6.below bA, F5.out.trans fA⟩)
   have K0 := Lib.hid (show TmK c (d + 1) i j [] t most pr ns6 RS from ⟨hgood, (fun e he => by cases he), by simpa using hnod, by simp, c.tk.length, by have := H.out.1.len; omega, by rw [← HRS.out, termP, hres]; rfl⟩)
   clear hq hres f6 h6 hj ht hgood hnod bA fA CO HW5 C5 R5 E5 H5
   go_wp2_with fail
   go_loopw [10, 11, 12, 13, 14, 15, 16, 17] (fun s10 s11 s12 s13 s14 s15 s16 s17 wr => ∃ (j : Nat) (S : List PE) (t : T) (a0 a1 : Int) (a2 : ByteArray) (a3 : Option Addr) (a4 a5 : Nat) (ms prio : Int) (ns' : List ByteArray) (sA : Option Addr) (cc : Nat), s10 = .int .i64 prio ∧ TmM c w wr D j S t a0 a1 a2 a3 a4 a5 ms ns' sA cc w6.heap.size ∧ Hid (TmK c (d + 1) i j S t ms prio ns' RS)) (fun _ _ _ _ _ _ _ _ wr => 2 * leftOf c wr + stLen (w.heap.size + 1 + 1 + 1 + 1) wr)
   case atStart => exact ⟨_, _, _, _, _, _, _, _, _, _, _, _, _, _, rfl, M0.out, K0⟩
   case round =>
    clear M0 K0
    obtain ⟨j, S, t, a0, a1, a2, a3, a4, a5, ms, prio, ns', sA, cc, rfl, hM, hK⟩ := hrel
    have M := Lib.hid hM
    clear hM
    obtain ⟨c0, c1, c2, c3⟩ := M.out.cb.cells
    obtain ⟨l0, l1, l2, l3⟩ := M.out.cb.lt
    obtain ⟨x, hx⟩ : ∃ x, nx c j = x := ⟨_, rfl⟩
    have HX := Lib.hid hx
    have HXT := Lib.hid (show nxT c.tk c.s.size j = x from hx)
    have PK := Lib.hid (ppeek_any _ M.out.rd)
    rw [hx] at PK
    clear hx
    go_wp2_with fail
    refine PK.out.mono ?_
    rintro e w7 ⟨rfl, hb7⟩
    have bA := Lib.hid (hb7.alloc hb7.size (Obj.cells #[.int .i64 x.k, .string x.t, .int .i64 (x.a : Int), .int .i64 (x.b : Int)] 83))
    have M7 := Lib.hid (M.out.stand (Frp.of_below bA.out M.out.rd.base) (M.out.rd.below bA.out))
    have KX := Lib.hid (heap_alloc_new w7 (Obj.cells #[.int .i64 x.k, .string x.t, .int .i64 (x.a : Int), .int .i64 (x.b : Int)] 83))
    have hRw7 : c.R < w7.heap.size := Nat.lt_of_lt_of_le M.out.rd.lt hb7.size
    clear hb7 PK c0 c1 c2 c3 l0 l1 l2 l3
    obtain ⟨c0, c1, c2, c3⟩ := M7.out.cb.cells
    obtain ⟨l0, l1, l2, l3⟩ := M7.out.cb.lt
    obtain ⟨q0, q1, q2, q3⟩ := box4t KX.out
    have hlq := heap_lt KX.out
    cases k1 : (x.k == 1) with
    | true =>
     have HIS := Lib.hid (show ¬ ((nxT c.tk c.s.size j).k ≠ 1 ∧ isM c.tk c.s.size j ⟨#[44]⟩ = false) from fun h => by
      rw [HXT.out] at h
      exact h.1 (by simpa using k1))
     go_wp2_with fail
     refine (pinfix_any x.t _ (HE.out.fr M7.out.fr).ops).mono ?_
     rintro e W8 ⟨⟨pa, pb, pc, is, rfl, hr⟩, hb8⟩
     have M8 := Lib.hid (M7.out.stand (Frp.of_below hb8 M7.out.rd.base) (M7.out.rd.below hb8))
     have HB8 := Lib.hid hb8
     have hr' := hr.out
     obtain ⟨c0, c1, c2, c3⟩ := M8.out.cb.cells
     obtain ⟨l0, l1, l2, l3⟩ := M8.out.cb.lt
     clear hb8 hr
     cases is with
     | false =>
      have hnone : opIn x.t = none := by
       rcases hr' with ⟨h, _⟩ | ⟨_, h, _⟩
       ·cases h
       ·exact h
      clear hr'
      have HNO := Lib.hid (show ∀ f, infixC c.tk c.s.size (termP c.tk c.s.size (d + 1 - 1 - S.length)) ms f t prio j ns' = .ok (t, j, ns') from fun f => infix_none (by rw [HXT.out]; exact hnone))
      have hKK := hK.out
      cases S with
      | nil =>
       have HR := Lib.hid (show RS = .ok (t, j, ns') by
        obtain ⟨f, _, h⟩ := hKK.eq
        rw [h]
        exact HNO.out f)
       have HG := Lib.hid (And.intro hKK.gd hKK.nod)
       have hc1 := M8.out.cb.cells.2.1
       obtain ⟨y0, y1, y2, y3⟩ := box4t M8.out.tbox
       obtain ⟨x0, x1, x2, x3⟩ := box4t M8.out.res
       have xf : ∀ j, W8.frozen? ⟨w.heap.size + 1 + 1 + 1, j, none⟩ = false := fun j => by simp [World.frozen?, M8.out.res]
       have hlj := M8.out.fr.size
       clear hKK hK c0 c1 c2
       go_wp2_with fail
       obtain ⟨p0, p1, p2, p3⟩ := box4t (box_put4 M8.out.res (.int .i64 a0) (.int .i64 a1) (.string a2) (.slice a3 a4 a5) rfl).1
       refine bodyPost_ret (v := .agg #[.int .i64 a0, .int .i64 a1, .string a2, .slice a3 a4 a5]) (by simp [results, go_sem, p0, p1, p2, p3]) rfl ?_
       exact ret_boxp M8.out.rd M8.out.fr hB M8.out.res (by omega) (M8.out.ht.more fun b hb => ⟨by omega, by omega⟩) (by have := HG.out.2; simp at this; omega) HG.out.1 (by have := HG.out.2; simpa using this) HR.out
      | cons ee S =>
       obtain ⟨nm, lt, e0, e1, e2, ea, em, ec, pp, po, ef⟩ := ee
       obtain ⟨n, hn⟩ : ∃ n, S.length = n := ⟨_, rfl⟩
       have HN := Lib.hid hn
       have HKN := Lib.hid (show TmK c (d + 1) i j S (twoT nm lt t) po pp ns' RS from by
        obtain ⟨q1, q2, q3⟩ := hKK.gs _ List.mem_cons_self
        refine ⟨two_good _ q2 q1 hKK.gd, fun e' he' => hKK.gs e' (List.mem_cons_of_mem _ he'), ?_, ?_, ef, q3, ?_⟩
        ·have h9 := hKK.nod
         have h8 : (twoT nm lt t).nodes = 1 + lt.nodes + t.nodes := two_nodes _ _ _
         rw [h8]
         simp only [List.map_cons, List.sum_cons] at h9
         omega
        ·have := hKK.len
         simp only [List.length_cons] at this
         omega
        ·obtain ⟨f, _, h⟩ := hKK.eq
         rw [h, HNO.out f]
         rfl)
       have hlen : n ≤ 64 := by have := hKK.len; simp only [List.length_cons] at this; omega
       have hrow := M8.out.row
       obtain ⟨A', cc', erow, hcc', hA', _, hxr⟩ := own_open hrow
       injection erow with er1 _ er3
       subst er1 er3
       obtain ⟨gb, cur, hgb, hgb0, hhb, hcur⟩ := hxr (by simp)
       have hcell : ∀ k, k < 7 → W8.cell? ⟨gb, n * 7 + k, none⟩ = (PE.cells ⟨nm, lt, e0, e1, e2, ea, em, ec, pp, po, ef⟩)[k]? := fun k hk => by
        rw [cell_of_row _ gb (n * 7 + k) _ _ _ hhb, hcur (n * 7 + k) (by simp only [List.length_cons]; omega)]
        show (stCells S ++ PE.cells ⟨nm, lt, e0, e1, e2, ea, em, ec, pp, po, ef⟩)[n * 7 + k]? = _
        rw [List.getElem?_append_right (by rw [st_len, hn]; omega), st_len, hn]
        congr 1
        omega
       have r0 : W8.cell? ⟨gb, n * 7, none⟩ = some (.string nm) := hcell 0 (by omega)
       have r1 : W8.cell? ⟨gb, n * 7 + 1, none⟩ = some (.int .i64 e0) := hcell 1 (by omega)
       have r2 : W8.cell? ⟨gb, n * 7 + 2, none⟩ = some (.int .i64 e1) := hcell 2 (by omega)
       have r3 : W8.cell? ⟨gb, n * 7 + 3, none⟩ = some (.string e2) := hcell 3 (by omega)
       have r4 : W8.cell? ⟨gb, n * 7 + 4, none⟩ = some (.slice ea em ec) := hcell 4 (by omega)
       have r5 : W8.cell? ⟨gb, n * 7 + 5, none⟩ = some (.int .i64 pp) := hcell 5 (by omega)
       have r6 : W8.cell? ⟨gb, n * 7 + 6, none⟩ = some (.int .i64 po) := hcell 6 (by omega)
       subst hgb
       have hsn : ((PE.mk nm lt e0 e1 e2 ea em ec pp po ef :: S).length) = n + 1 := by rw [List.length_cons, hn]
       have hc1 := M8.out.cb.cells.2.1
       rw [hsn] at hc1
       have hccn : n + 1 ≤ cc := by rw [hsn] at hcc'; exact hcc'
       have HC1 := Lib.hid hc1
       have hlw := M8.out.cb.lt
       obtain ⟨L0, L1, L2, L3⟩ := hlw
       have L1' := L1
       have L3' := L3
       try simp only [World.size_alloc] at L1' L3'
       have ltb := heap_lt M8.out.tbox
       have htbl := M8.out.htb
       have sf : ∀ j, W8.frozen? ⟨w.heap.size + 1 + 1 + 1 + 1, j, none⟩ = false := fun j => by simp [World.frozen?, M8.out.cb.hs]
       have hlgb := heap_lt hhb
       clear hKK hcell hhb hcur hxr hrow hA' hcc' hsn HC1
       have HL9 := Lib.hid (show (W8.setCell ⟨w.heap.size + 1 + 1 + 1 + 1, 0, none⟩ (.slice (some ⟨gb, 0, none⟩) n cc)).heap.size = W8.heap.size by simp)
       have HTB8 := Lib.hid ((Below.heap_setCell W8 ⟨w.heap.size + 1 + 1 + 1 + 1, 0, none⟩ (.slice (some ⟨gb, 0, none⟩) n cc) w6.heap.size (by show w6.heap.size ≠ w.heap.size + 1 + 1 + 1 + 1; omega)).trans M8.out.tbox)
       have HM48 := Lib.hid ((Below.heap_setCell W8 ⟨w.heap.size + 1 + 1 + 1 + 1, 0, none⟩ (.slice (some ⟨gb, 0, none⟩) n cc) (w.heap.size + 1) (by show w.heap.size + 1 ≠ w.heap.size + 1 + 1 + 1 + 1; omega)).trans M8.out.cb.hm)
       clear c0 c1 c2
       go_wp2_with fail
       obtain ⟨w9, hw9⟩ : ∃ w9, W8.setCell ⟨w.heap.size + 1 + 1 + 1 + 1, 0, none⟩ (.slice (some ⟨gb, 0, none⟩) n cc) = w9 := ⟨_, rfl⟩
       rw [hw9] at HTB8 HM48 HL9 ⊢
       have HW9 := Lib.hid hw9
       have hl9 := HL9.out
       have PB := Lib.hid (show (w9.alloc (Obj.cells #[.string nm, .int .i64 e0, .int .i64 e1, .string e2, .slice ea em ec, .int .i64 pp, .int .i64 po] 114)).heap[W8.heap.size]? = some (.cells #[.string nm, .int .i64 e0, .int .i64 e1, .string e2, .slice ea em ec, .int .i64 pp, .int .i64 po] 114 (0, 0)) by rw [← hl9]; exact heap_alloc_new w9 _)
       have HTB9 := Lib.hid ((Below.heap_alloc w9 (Obj.cells #[.string nm, .int .i64 e0, .int .i64 e1, .string e2, .slice ea em ec, .int .i64 pp, .int .i64 po] 114) w6.heap.size (by omega)).trans HTB8.out)
       have HM49 := Lib.hid ((Below.heap_alloc w9 (Obj.cells #[.string nm, .int .i64 e0, .int .i64 e1, .string e2, .slice ea em ec, .int .i64 pp, .int .i64 po] 114) (w.heap.size + 1) (by omega)).trans HM48.out)
       have HTC := Lib.hid (box4t HTB9.out)
       have PS := Lib.hid (fun (W : World) (h : W.heap[W8.heap.size]? = some (.cells #[.string nm, .int .i64 e0, .int .i64 e1, .string e2, .slice ea em ec, .int .i64 pp, .int .i64 po] 114 (0, 0))) => show W.cell? ⟨W8.heap.size, 0, none⟩ = some (.string nm) ∧ W.cell? ⟨W8.heap.size, 1, none⟩ = some (.int .i64 e0) ∧ W.cell? ⟨W8.heap.size, 2, none⟩ = some (.int .i64 e1) ∧ W.cell? ⟨W8.heap.size, 3, none⟩ = some (.string e2) ∧ W.cell? ⟨W8.heap.size, 4, none⟩ = some (.slice ea em ec) ∧ W.cell? ⟨W8.heap.size, 5, none⟩ = some (.int .i64 pp) ∧ W.cell? ⟨W8.heap.size, 6, none⟩ = some (.int .i64 po) from
        ⟨cell_of_row _ _ 0 _ _ _ h, cell_of_row _ _ 1 _ _ _ h, cell_of_row _ _ 2 _ _ _ h, cell_of_row _ _ 3 _ _ _ h, cell_of_row _ _ 4 _ _ _ h, cell_of_row _ _ 5 _ _ _ h, cell_of_row _ _ 6 _ _ _ h⟩)
       obtain ⟨n0, n1, n2, n3⟩ := HTC.out
       clear hw9 r0 r1 r2 r3 r4 r5 r6 hc1
       refine wp_region_held_drew (S := fun w1 => w1.cell? ⟨W8.heap.size, 0, none⟩ = some (.string nm) ∧ w1.cell? ⟨W8.heap.size, 1, none⟩ = some (.int .i64 e0) ∧ w1.cell? ⟨W8.heap.size, 2, none⟩ = some (.int .i64 e1) ∧ w1.cell? ⟨W8.heap.size, 3, none⟩ = some (.string e2) ∧ w1.cell? ⟨W8.heap.size, 4, none⟩ = some (.slice ea em ec) ∧ w1.cell? ⟨W8.heap.size, 5, none⟩ = some (.int .i64 pp) ∧ w1.cell? ⟨W8.heap.size, 6, none⟩ = some (.int .i64 po)) (by kernel_rfl) ?Spa (fun hH0 => ?Bpa)
       case Spa => (exact PS.out _ PB.out)
       refine tkH 0 ?_
       try simp only [opD, Act.put, sA, sB, sC]
       refine tkH 1 ?_
       try simp only [opD, Act.put, sA, sB, sC]
       refine tkH 2 ?_
       try simp only [opD, Act.put, sA, sB, sC]
       refine tkH 3 ?_
       try simp only [opD, Act.put, sA, sB, sC]
       refine tkH 7 ?_
       try simp only [opD, Act.put, sA, sB, sC]
       refine tkH 8 ?_
       try simp only [opD, Act.put, sA, sB, sC]
       refine tkH 9 ?_
       try simp only [opD, Act.put, sA, sB, sC]
       refine tkH 10 ?_
       try simp only [opD, Act.put, sA, sB, sC]
       refine wpAnyH_ready (rs := [4]) (by kernel_rfl) (by simp) ?_
       refine rdH (fun K hK => ?_) ?nilpa4
       case nilpa4 => exact AllReadyH.nil
       go_simp
       refine hK.out _ _ ?Spa4 (fun hH1 => ?restpa4)
       case Spa4 => (exact PS.out _ PB.out)
       clear hK K
       try simp only [Act.put, sA, sB, sC]
       refine wpAnyH_ready (rs := [5]) (by kernel_rfl) (by simp) ?_
       refine rdH (fun K hK => ?_) ?nilpa5
       case nilpa5 => exact AllReadyH.nil
       go_simp
       refine hK.out _ _ ?Spa5 (fun hH2 => ?restpa5)
       case Spa5 => (exact PS.out _ ((Below.heap_alloc _ _ _ (by simp; omega)).trans PB.out))
       clear hK K
       try simp only [Act.put, sA, sB, sC]
       refine wpAnyH_ready (rs := [6]) (by kernel_rfl) (by simp) ?_
       refine rdH (fun K hK => ?_) ?nilpa6
       case nilpa6 => exact AllReadyH.nil
       go_simp
       (refine (pcell_any nm _ 2 2 _).mono ?_)
       rintro e w12 ⟨rfl, hb12⟩
       have hbx := Lib.hid hb12
       have htb12 := (hb12.block w6.heap.size (by simp; omega)).trans ((Below.heap_alloc _ _ _ (by simp; omega)).trans HTB9.out)
       have hm12 := (hb12.block (w.heap.size + 1) (by simp; omega)).trans ((Below.heap_alloc _ _ _ (by simp; omega)).trans HM49.out)
       have hp12 := (hb12.block W8.heap.size (by simp; omega)).trans ((Below.heap_alloc _ _ _ (by simp; omega)).trans PB.out)
       obtain ⟨z0, z1, z2, z3⟩ := box4t htb12
       have zf : ∀ j, w12.frozen? ⟨w6.heap.size, j, none⟩ = false := fun j => by simp [World.frozen?, htb12]
       have y0 := cell_of_row _ _ 0 _ _ _ hm12
       have yf : ∀ j, w12.frozen? ⟨w.heap.size + 1, j, none⟩ = false := fun j => by simp [World.frozen?, hm12]
       have hp13 := Lib.hid (((box_put4 htb12 (.int .i64 4) (.int .i64 0) (.string nm) (.slice (some ⟨W8.heap.size + 1, 0, none⟩) 2 2) rfl).2.2.1 W8.heap.size (by omega)).trans hp12)
       clear hb12
       go_wp2_with fail
       refine hK.out _ _ ?Spa6 (fun hH3 => ?restpa6)
       case Spa6 => (exact PS.out _ hp12)
       clear hK K
       try simp only [Act.put, sA, sB, sC]
       refine wpAnyH_ready (rs := [11]) (by kernel_rfl) (by simp) ?_
       refine rdH (fun K hK => ?_) ?nilpa11
       case nilpa11 => exact AllReadyH.nil
       go_simp
       refine hK.out _ _ ?Spa11 (fun hH4 => ?restpa11)
       case Spa11 => (exact PS.out _ hp13.out)
       clear hK K
       try simp only [Act.put, sA, sB, sC]
       refine tkH 12 ?_
       try simp only [opD, Act.put, sA, sB, sC]
       refine wpAnyH_ready (rs := [13]) (by kernel_rfl) (by simp) ?_
       refine rdH (fun K hK => ?_) ?nilpa13
       case nilpa13 => exact AllReadyH.nil
       go_simp
       refine hK.out _ _ ?Spa13 (fun hH5 => ?restpa13)
       case Spa13 => (exact PS.out _ ((Below.heap_setCell _ _ _ _ (by show W8.heap.size ≠ w.heap.size + 1; omega)).trans hp13.out))
       clear hK K
       try simp only [Act.put, sA, sB, sC]
       refine wpAnyH_done (by kernel_rfl) ?_ _
       have hbb : Below (W8.setCell ⟨w.heap.size + 1 + 1 + 1 + 1, 0, none⟩ (.slice (some ⟨gb, 0, none⟩) S.length cc)).heap.size (W8.setCell ⟨w.heap.size + 1 + 1 + 1 + 1, 0, none⟩ (.slice (some ⟨gb, 0, none⟩) S.length cc)) w12 := by
        rw [HN.out, HW9.out]
        exact ((((Below.refl w9.heap.size w9).alloc (Nat.le_refl _) _).drew).alloc (by simp) _).trans (hbx.out.mono (by simp; omega))
       have tpm : ∀ {t : T} {v : Value}, TP W8 (fun q => w.heap.size + 5 ≤ q ∧ q ≠ w6.heap.size) t v → TP w12 (fun q => w.heap.size + 5 ≤ q ∧ q ≠ w6.heap.size) t v := fun ht => ht.keep fun b cs f hS hb => ⟨(hbb.block b (by have := heap_lt hb; simp; omega)).trans ((Below.heap_setCell W8 _ _ b (heap_ne hb M8.out.cb.hs (by decide))).trans hb), hS⟩
       have MP0 := M8.out.popped (W1 := w12) hB hbb (t' := twoT nm lt t) (b0 := 4) (b1 := 0) (b2 := nm) (b3 := some ⟨W8.heap.size + 1, 0, none⟩) (b4 := 2) (b5 := 2)
        ⟨_, _, rfl, Nat.le_refl _, (fun h => by cases h), fun _ => ⟨W8.heap.size + 1, _, _, rfl, .inr (by omega), (hbx.out.block _ (by simp; omega)).trans (heap_at _ _ (by simp; omega)), fun i hi => by
         rcases (by omega : i = 0 ∨ i = 1) with rfl | rfl
         ·exact ⟨_, _, _, _, rfl, rfl, rfl, rfl, (tpm (M8.out.st _ List.mem_cons_self)).more fun b hb => .inl hb⟩
         ·exact ⟨_, _, _, _, rfl, rfl, rfl, rfl, (tpm M8.out.ht).more fun b hb => .inl hb⟩⟩⟩
       have MP := Lib.hid MP0
       clear MP0 hbb tpm hbx htb12 hm12 z0 z1 z2 z3 y0
       go_wp2_with fail
       go_roundw
       case rel => exact ⟨j, S, twoT nm lt t, 4, 0, nm, some ⟨W8.heap.size + 1, 0, none⟩, 2, 2, po, pp, ns', some ⟨gb, 0, none⟩, cc, rfl, MP.out, HKN⟩
       case measure =>
        rw [MP.out.rd.left_eq, M.out.rd.left_eq, MP.out.len_eq, M.out.len_eq]
        simp only [List.length_cons]
        omega
     | true =>
      have hsome : opIn x.t = some (pa, pb, pc) := by
       rcases hr' with ⟨_, h⟩ | ⟨h, _⟩
       ·exact h
       ·cases h
      clear hr'
      by_cases hpm : pa ≤ ms
      ·by_cases hpl : prio ≤ pb
       ·have hpl' : pb ≥ prio := hpl
        have hKK := hK.out
        have hk0 : (nx c j).k ≠ 0 := by
         rw [HX.out]
         intro h0
         rw [h0] at k1
         first
         | (simp at k1; done)
         | (rw [h0] at k5; simp at k5; done)
        have hjt := nx_ltp M8.out.rd hk0
        have CT := Lib.hid (ptake_any _ M8.out.rd hk0)
        have HNM := Lib.hid (nx_sizep M8.out.rd)
        rw [HX.out] at CT HNM
        have KX8 := Lib.hid ((HB8.out.block _ (heap_lt KX.out)).trans KX.out)
        have HGO := Lib.hid (show ∃ f, c.tn ≤ j + f + 1 ∧ RS = unw c.tk c.s.size (d + 1) (⟨x.t, t, a0, a1, a2, a3, a4, a5, pa, ms, f⟩ :: S) (termP c.tk c.s.size (d - S.length) pc (j + 1) ns') by
         obtain ⟨f, hf, h⟩ := hKK.eq
         obtain ⟨f, rfl⟩ : ∃ k, f = k + 1 := ⟨f - 1, by omega⟩
         refine ⟨f, by omega, ?_⟩
         rw [h, infix_go HIS.out (by rw [HXT.out]; exact hsome) (by omega), HXT.out]
         rfl)
        have hSl := hKK.len
        have HKK := Lib.hid hKK
        have hle := M8.out.fr.size
        clear hKK hK hk0
        go_wp2_with fail
        refine CT.out.mono ?_
        rintro e w9 ⟨rfl, h9, f9⟩
        have M9 := Lib.hid (M8.out.stand f9 h9)
        have KX9 := Lib.hid (f9.keep _ _ _ _ KX8.out (Nat.ne_of_gt hRw7) (fun h => absurd h (by decide)))
        obtain ⟨c0, c1, c2, c3⟩ := M9.out.cb.cells
        obtain ⟨l0, l1, l2, l3⟩ := M9.out.cb.lt
        obtain ⟨q0, q1, q2, q3⟩ := box4t KX9.out
        obtain ⟨y0, y1, y2, y3⟩ := box4t M9.out.tbox
        have hlq := heap_lt KX9.out
        have hlt9 := heap_lt M9.out.tbox
        have hB9 := Lib.hid ((Below.refl w9.heap.size w9).alloc (Nat.le_refl _) (Obj.cells #[.string x.t, .int .i64 a0, .int .i64 a1, .string a2, .slice a3 a4 a5, .int .i64 pa, .int .i64 ms] 114))
        have hS60 : S.length ≤ 65 := by omega
        have hfz := M9.out.fr.size
        clear h9 f9 CT
        go_wp2_with (at_builtin; go_must (refine wpList_append_cells _ rfl _ _ _ rfl elPend (w.heap.size + 5) _ _ _ rfl (own_below M9.out.row hB9.out) (some ⟨w9.heap.size, 0, none⟩) 1 1 [.string x.t, .int .i64 a0, .int .i64 a1, .string a2, .slice a3 a4 a5, .int .i64 pa, .int .i64 ms] rfl (fun h => by cases h) (Nat.le_refl _) rfl (fun _ => ⟨_, 0, rfl, ?_⟩) ?_ (by omega) (by unfold maxLen; omega) (by have := M9.out.htb; simp; omega) ?_))
        ·intro k u hu
         rw [Nat.zero_add, cell_of_row _ w9.heap.size k _ _ _ (heap_alloc_new _ _)]
         simpa using hu
        ·intro u hu
         simp only [List.mem_cons, List.not_mem_nil, or_false] at hu
         rcases hu with rfl | rfl | rfl | rfl | rfl | rfl | rfl <;> rfl
        intro v1 w10 hown1 hg1
        obtain ⟨A1, c1', rfl, _, _, _, _⟩ := own_open hown1
        obtain ⟨f, hf, hRS⟩ := HGO.out
        have M10 := Lib.hid (M9.out.pushed hB hB9.out hg1 x.t pa pc f hown1)
        have hs10 : w10.heap[w.heap.size + 1 + 1 + 1 + 1]? = some (.cells #[.slice sA S.length cc] 111 (0, 0)) := (hg1.block _ (by simp; omega) (own_neP (own_below M9.out.row hB9.out) ((hB9.out.block _ l1).trans M9.out.cb.hs) (by decide))).trans ((hB9.out.block _ l1).trans M9.out.cb.hs)
        have hm10 : w10.heap[w.heap.size + 1]? = some (.cells #[.int .i64 ms] 3 (0, 0)) := (hg1.block _ (by simp; omega) (own_neP (own_below M9.out.row hB9.out) ((hB9.out.block _ l3).trans M9.out.cb.hm) (by decide))).trans ((hB9.out.block _ l3).trans M9.out.cb.hm)
        have hcs10 := cell_of_row _ _ 0 _ _ _ hs10
        have hcm10 := cell_of_row _ _ 0 _ _ _ hm10
        have hfs10 : ∀ j, w10.frozen? ⟨w.heap.size + 1 + 1 + 1 + 1, j, none⟩ = false := fun j => by simp [World.frozen?, hs10]
        have hfm10 : ∀ j, w10.frozen? ⟨w.heap.size + 1, j, none⟩ = false := fun j => by simp [World.frozen?, hm10]
        have HRS2 := Lib.hid hRS
        have HF := Lib.hid hf
        clear hown1 hg1 hs10 hm10 hRS hf HGO c0 c1 c2 c3 q0 q1 q2 q3 y0 y1 y2 y3
        by_cases hdep : S.length + 1 ≤ d
        ·obtain ⟨mm, hmm⟩ : ∃ mm, d - S.length = mm + 1 := ⟨d - S.length - 1, by omega⟩
         have CE := Lib.hid (penter_ok (tm := termP c.tk c.s.size mm) D (S.length + 1) c1' A1 (by
          have h1 := IH mm (by omega)
          rw [show ((65 - mm : Nat) : Int) = ((D + (S.length + 1) : Nat) : Int) + 1 by omega] at h1
          exact h1) _ (j + 1) ns' M10.out.rd (HE.out.fr M10.out.fr) M10.out.cb (by omega))
         go_wp2_with fail
         refine CE.out.mono ?_
         rintro e w11 hq
         cases hres : operandP c.tk c.s.size (termP c.tk c.s.size mm) pc (j + 1) ns' with
         | error pk =>
          obtain ⟨p', k'⟩ := pk
          obtain ⟨f11, rfl⟩ := hq.err hres
          have HR := Lib.hid (show RS = .error (p', k') by rw [HRS2.out, hmm, termP, hres]; exact unw_err _ _ _ _ _)
          have F11 := Lib.hid (M10.out.fr.trans f11)
          clear hq hres f11 CE
          go_wp2_with fail
          refine ⟨rfl, ?_⟩
          rw [HR.out]
          exact ⟨F11.out, rfl⟩
         | ok yy =>
          obtain ⟨⟨t2, pr2⟩, j2, ns2⟩ := yy
          obtain ⟨f11, v, rfl, h11, hj2, tv, rfl, ht2, hg2, hn2⟩ := hq.ok hres
          obtain ⟨u0, u1, u2, uA, um, uc, rfl⟩ := ht2.agg
          have M11 := Lib.hid (M10.out.stand f11 h11)
          have hlt10 := heap_lt M10.out.tbox
          have hfz10 := M10.out.fr.size
          have M12 := Lib.hid (M11.out.put hB (ht2.more fun b hb => ⟨by have := M10.out.htb; omega, by omega⟩))
          have KN := Lib.hid (show TmK c (d + 1) i j2 (⟨x.t, t, a0, a1, a2, a3, a4, a5, pa, ms, f⟩ :: S) t2 pc pr2 ns2 RS from by
           have hkk := HKK.out
           refine ⟨hg2, fun e' he' => ?_, ?_, by simp only [List.length_cons]; omega, c.tk.length, by have := H.out.1.len; omega, ?_⟩
           ·rcases List.mem_cons.1 he' with rfl | he'
            ·exact ⟨hkk.gd, HNM.out, by show c.tn ≤ j2 + f; have := HF.out; omega⟩
            ·obtain ⟨g1, g2, g3⟩ := hkk.gs e' he'
             exact ⟨g1, g2, by omega⟩
           ·have h8 := hkk.nod
            have h9 : (j + 1) + t2.nodes ≤ j2 := hn2
            simp only [List.map_cons, List.sum_cons]
            omega
           ·rw [HRS2.out, hmm, termP, hres]
            show unw _ _ _ _ (infixC c.tk c.s.size (termP c.tk c.s.size mm) pc c.tk.length t2 pr2 j2 ns2) = _
            rw [show d + 1 - 1 - (PE.mk x.t t a0 a1 a2 a3 a4 a5 pa ms f :: S).length = mm by simp only [List.length_cons]; omega])
          have HJ2 := Lib.hid (And.intro hj2 hn2)
          obtain ⟨y0, y1, y2, y3⟩ := box4t M11.out.tbox
          have yf : ∀ j, w11.frozen? ⟨w6.heap.size, j, none⟩ = false := fun j => by simp [World.frozen?, M11.out.tbox]
          clear hq hres f11 h11 ht2 hg2 hn2 CE
          go_wp2_with fail
          go_roundw
          case rel => exact ⟨j2, _, t2, u0, u1, u2, uA, um, uc, pc, pr2, ns2, A1, c1', rfl, M12.out, KN⟩
          case measure =>
           rw [M12.out.rd.left_eq, M.out.rd.left_eq, M12.out.len_eq, M.out.len_eq]
           have := HJ2.out.1
           simp only [List.length_cons]
           omega
        ·have hd0 : d - S.length = 0 := by omega
         have CE := Lib.hid (penter_no D (S.length + 1) c1' A1 _ (j + 1) ns' M10.out.rd M10.out.cb (by omega) (by omega) (by omega))
         have HR := Lib.hid (show RS = .error (((nx c (j + 1)).a : Int), 52) by rw [HRS2.out, hd0]; exact unw_err _ _ _ _ _)
         go_wp2_with fail
         refine CE.out.mono ?_
         rintro e w11 ⟨rfl, f11⟩
         have F11 := Lib.hid (M10.out.fr.trans f11)
         clear f11 CE
         go_wp2_with fail
         refine ⟨rfl, ?_⟩
         rw [HR.out]
         exact ⟨F11.out, rfl⟩
       ·have hpl' : ¬ (pb ≥ prio) := hpl
        have HNO := Lib.hid (show ∀ f, infixC c.tk c.s.size (termP c.tk c.s.size (d + 1 - 1 - S.length)) ms f t prio j ns' = .ok (t, j, ns') from fun f => infix_low (by rw [HXT.out]; exact hsome) (.inr (by omega)))
        have hKK := hK.out
        cases S with
        | nil =>
         have HR := Lib.hid (show RS = .ok (t, j, ns') by
          obtain ⟨f, _, h⟩ := hKK.eq
          rw [h]
          exact HNO.out f)
         have HG := Lib.hid (And.intro hKK.gd hKK.nod)
         have hc1 := M8.out.cb.cells.2.1
         obtain ⟨y0, y1, y2, y3⟩ := box4t M8.out.tbox
         obtain ⟨x0, x1, x2, x3⟩ := box4t M8.out.res
         have xf : ∀ j, W8.frozen? ⟨w.heap.size + 1 + 1 + 1, j, none⟩ = false := fun j => by simp [World.frozen?, M8.out.res]
         have hlj := M8.out.fr.size
         clear hKK hK c0 c1 c2
         go_wp2_with fail
         obtain ⟨p0, p1, p2, p3⟩ := box4t (box_put4 M8.out.res (.int .i64 a0) (.int .i64 a1) (.string a2) (.slice a3 a4 a5) rfl).1
         refine bodyPost_ret (v := .agg #[.int .i64 a0, .int .i64 a1, .string a2, .slice a3 a4 a5]) (by simp [results, go_sem, p0, p1, p2, p3]) rfl ?_
         exact ret_boxp M8.out.rd M8.out.fr hB M8.out.res (by omega) (M8.out.ht.more fun b hb => ⟨by omega, by omega⟩) (by have := HG.out.2; simp at this; omega) HG.out.1 (by have := HG.out.2; simpa using this) HR.out
        | cons ee S =>
         obtain ⟨nm, lt, e0, e1, e2, ea, em, ec, pp, po, ef⟩ := ee
         obtain ⟨n, hn⟩ : ∃ n, S.length = n := ⟨_, rfl⟩
         have HN := Lib.hid hn
         have HKN := Lib.hid (show TmK c (d + 1) i j S (twoT nm lt t) po pp ns' RS from by
          obtain ⟨q1, q2, q3⟩ := hKK.gs _ List.mem_cons_self
          refine ⟨two_good _ q2 q1 hKK.gd, fun e' he' => hKK.gs e' (List.mem_cons_of_mem _ he'), ?_, ?_, ef, q3, ?_⟩
          ·have h9 := hKK.nod
           have h8 : (twoT nm lt t).nodes = 1 + lt.nodes + t.nodes := two_nodes _ _ _
           rw [h8]
           simp only [List.map_cons, List.sum_cons] at h9
           omega
          ·have := hKK.len
           simp only [List.length_cons] at this
           omega
          ·obtain ⟨f, _, h⟩ := hKK.eq
           rw [h, HNO.out f]
           rfl)
         have hlen : n ≤ 64 := by have := hKK.len; simp only [List.length_cons] at this; omega
         have hrow := M8.out.row
         obtain ⟨A', cc', erow, hcc', hA', _, hxr⟩ := own_open hrow
         injection erow with er1 _ er3
         subst er1 er3
         obtain ⟨gb, cur, hgb, hgb0, hhb, hcur⟩ := hxr (by simp)
         have hcell : ∀ k, k < 7 → W8.cell? ⟨gb, n * 7 + k, none⟩ = (PE.cells ⟨nm, lt, e0, e1, e2, ea, em, ec, pp, po, ef⟩)[k]? := fun k hk => by
          rw [cell_of_row _ gb (n * 7 + k) _ _ _ hhb, hcur (n * 7 + k) (by simp only [List.length_cons]; omega)]
          show (stCells S ++ PE.cells ⟨nm, lt, e0, e1, e2, ea, em, ec, pp, po, ef⟩)[n * 7 + k]? = _
          rw [List.getElem?_append_right (by rw [st_len, hn]; omega), st_len, hn]
          congr 1
          omega
         have r0 : W8.cell? ⟨gb, n * 7, none⟩ = some (.string nm) := hcell 0 (by omega)
         have r1 : W8.cell? ⟨gb, n * 7 + 1, none⟩ = some (.int .i64 e0) := hcell 1 (by omega)
         have r2 : W8.cell? ⟨gb, n * 7 + 2, none⟩ = some (.int .i64 e1) := hcell 2 (by omega)
         have r3 : W8.cell? ⟨gb, n * 7 + 3, none⟩ = some (.string e2) := hcell 3 (by omega)
         have r4 : W8.cell? ⟨gb, n * 7 + 4, none⟩ = some (.slice ea em ec) := hcell 4 (by omega)
         have r5 : W8.cell? ⟨gb, n * 7 + 5, none⟩ = some (.int .i64 pp) := hcell 5 (by omega)
         have r6 : W8.cell? ⟨gb, n * 7 + 6, none⟩ = some (.int .i64 po) := hcell 6 (by omega)
         subst hgb
         have hsn : ((PE.mk nm lt e0 e1 e2 ea em ec pp po ef :: S).length) = n + 1 := by rw [List.length_cons, hn]
         have hc1 := M8.out.cb.cells.2.1
         rw [hsn] at hc1
         have hccn : n + 1 ≤ cc := by rw [hsn] at hcc'; exact hcc'
         have HC1 := Lib.hid hc1
         have hlw := M8.out.cb.lt
         obtain ⟨L0, L1, L2, L3⟩ := hlw
         have L1' := L1
         have L3' := L3
         try simp only [World.size_alloc] at L1' L3'
         have ltb := heap_lt M8.out.tbox
         have htbl := M8.out.htb
         have sf : ∀ j, W8.frozen? ⟨w.heap.size + 1 + 1 + 1 + 1, j, none⟩ = false := fun j => by simp [World.frozen?, M8.out.cb.hs]
         have hlgb := heap_lt hhb
         clear hKK hcell hhb hcur hxr hrow hA' hcc' hsn HC1
         have HL9 := Lib.hid (show (W8.setCell ⟨w.heap.size + 1 + 1 + 1 + 1, 0, none⟩ (.slice (some ⟨gb, 0, none⟩) n cc)).heap.size = W8.heap.size by simp)
         have HTB8 := Lib.hid ((Below.heap_setCell W8 ⟨w.heap.size + 1 + 1 + 1 + 1, 0, none⟩ (.slice (some ⟨gb, 0, none⟩) n cc) w6.heap.size (by show w6.heap.size ≠ w.heap.size + 1 + 1 + 1 + 1; omega)).trans M8.out.tbox)
         have HM48 := Lib.hid ((Below.heap_setCell W8 ⟨w.heap.size + 1 + 1 + 1 + 1, 0, none⟩ (.slice (some ⟨gb, 0, none⟩) n cc) (w.heap.size + 1) (by show w.heap.size + 1 ≠ w.heap.size + 1 + 1 + 1 + 1; omega)).trans M8.out.cb.hm)
         clear c0 c1 c2
         go_wp2_with fail
         obtain ⟨w9, hw9⟩ : ∃ w9, W8.setCell ⟨w.heap.size + 1 + 1 + 1 + 1, 0, none⟩ (.slice (some ⟨gb, 0, none⟩) n cc) = w9 := ⟨_, rfl⟩
         rw [hw9] at HTB8 HM48 HL9 ⊢
         have HW9 := Lib.hid hw9
         have hl9 := HL9.out
         have PB := Lib.hid (show (w9.alloc (Obj.cells #[.string nm, .int .i64 e0, .int .i64 e1, .string e2, .slice ea em ec, .int .i64 pp, .int .i64 po] 114)).heap[W8.heap.size]? = some (.cells #[.string nm, .int .i64 e0, .int .i64 e1, .string e2, .slice ea em ec, .int .i64 pp, .int .i64 po] 114 (0, 0)) by rw [← hl9]; exact heap_alloc_new w9 _)
         have HTB9 := Lib.hid ((Below.heap_alloc w9 (Obj.cells #[.string nm, .int .i64 e0, .int .i64 e1, .string e2, .slice ea em ec, .int .i64 pp, .int .i64 po] 114) w6.heap.size (by omega)).trans HTB8.out)
         have HM49 := Lib.hid ((Below.heap_alloc w9 (Obj.cells #[.string nm, .int .i64 e0, .int .i64 e1, .string e2, .slice ea em ec, .int .i64 pp, .int .i64 po] 114) (w.heap.size + 1) (by omega)).trans HM48.out)
         have HTC := Lib.hid (box4t HTB9.out)
         have PS := Lib.hid (fun (W : World) (h : W.heap[W8.heap.size]? = some (.cells #[.string nm, .int .i64 e0, .int .i64 e1, .string e2, .slice ea em ec, .int .i64 pp, .int .i64 po] 114 (0, 0))) => show W.cell? ⟨W8.heap.size, 0, none⟩ = some (.string nm) ∧ W.cell? ⟨W8.heap.size, 1, none⟩ = some (.int .i64 e0) ∧ W.cell? ⟨W8.heap.size, 2, none⟩ = some (.int .i64 e1) ∧ W.cell? ⟨W8.heap.size, 3, none⟩ = some (.string e2) ∧ W.cell? ⟨W8.heap.size, 4, none⟩ = some (.slice ea em ec) ∧ W.cell? ⟨W8.heap.size, 5, none⟩ = some (.int .i64 pp) ∧ W.cell? ⟨W8.heap.size, 6, none⟩ = some (.int .i64 po) from
          ⟨cell_of_row _ _ 0 _ _ _ h, cell_of_row _ _ 1 _ _ _ h, cell_of_row _ _ 2 _ _ _ h, cell_of_row _ _ 3 _ _ _ h, cell_of_row _ _ 4 _ _ _ h, cell_of_row _ _ 5 _ _ _ h, cell_of_row _ _ 6 _ _ _ h⟩)
         obtain ⟨n0, n1, n2, n3⟩ := HTC.out
         clear hw9 r0 r1 r2 r3 r4 r5 r6 hc1
         refine wp_region_held_drew (S := fun w1 => w1.cell? ⟨W8.heap.size, 0, none⟩ = some (.string nm) ∧ w1.cell? ⟨W8.heap.size, 1, none⟩ = some (.int .i64 e0) ∧ w1.cell? ⟨W8.heap.size, 2, none⟩ = some (.int .i64 e1) ∧ w1.cell? ⟨W8.heap.size, 3, none⟩ = some (.string e2) ∧ w1.cell? ⟨W8.heap.size, 4, none⟩ = some (.slice ea em ec) ∧ w1.cell? ⟨W8.heap.size, 5, none⟩ = some (.int .i64 pp) ∧ w1.cell? ⟨W8.heap.size, 6, none⟩ = some (.int .i64 po)) (by kernel_rfl) ?Spb (fun hH0 => ?Bpb)
         case Spb => (exact PS.out _ PB.out)
         refine tkH 0 ?_
         try simp only [opD, Act.put, sA, sB, sC]
         refine tkH 1 ?_
         try simp only [opD, Act.put, sA, sB, sC]
         refine tkH 2 ?_
         try simp only [opD, Act.put, sA, sB, sC]
         refine tkH 3 ?_
         try simp only [opD, Act.put, sA, sB, sC]
         refine tkH 7 ?_
         try simp only [opD, Act.put, sA, sB, sC]
         refine tkH 8 ?_
         try simp only [opD, Act.put, sA, sB, sC]
         refine tkH 9 ?_
         try simp only [opD, Act.put, sA, sB, sC]
         refine tkH 10 ?_
         try simp only [opD, Act.put, sA, sB, sC]
         refine wpAnyH_ready (rs := [4]) (by kernel_rfl) (by simp) ?_
         refine rdH (fun K hK => ?_) ?nilpb4
         case nilpb4 => exact AllReadyH.nil
         go_simp
         refine hK.out _ _ ?Spb4 (fun hH1 => ?restpb4)
         case Spb4 => (exact PS.out _ PB.out)
         clear hK K
         try simp only [Act.put, sA, sB, sC]
         refine wpAnyH_ready (rs := [5]) (by kernel_rfl) (by simp) ?_
         refine rdH (fun K hK => ?_) ?nilpb5
         case nilpb5 => exact AllReadyH.nil
         go_simp
         refine hK.out _ _ ?Spb5 (fun hH2 => ?restpb5)
         case Spb5 => (exact PS.out _ ((Below.heap_alloc _ _ _ (by simp; omega)).trans PB.out))
         clear hK K
         try simp only [Act.put, sA, sB, sC]
         refine wpAnyH_ready (rs := [6]) (by kernel_rfl) (by simp) ?_
         refine rdH (fun K hK => ?_) ?nilpb6
         case nilpb6 => exact AllReadyH.nil
         go_simp
         (refine (pcell_any nm _ 2 2 _).mono ?_)
         rintro e w12 ⟨rfl, hb12⟩
         have hbx := Lib.hid hb12
         have htb12 := (hb12.block w6.heap.size (by simp; omega)).trans ((Below.heap_alloc _ _ _ (by simp; omega)).trans HTB9.out)
         have hm12 := (hb12.block (w.heap.size + 1) (by simp; omega)).trans ((Below.heap_alloc _ _ _ (by simp; omega)).trans HM49.out)
         have hp12 := (hb12.block W8.heap.size (by simp; omega)).trans ((Below.heap_alloc _ _ _ (by simp; omega)).trans PB.out)
         obtain ⟨z0, z1, z2, z3⟩ := box4t htb12
         have zf : ∀ j, w12.frozen? ⟨w6.heap.size, j, none⟩ = false := fun j => by simp [World.frozen?, htb12]
         have y0 := cell_of_row _ _ 0 _ _ _ hm12
         have yf : ∀ j, w12.frozen? ⟨w.heap.size + 1, j, none⟩ = false := fun j => by simp [World.frozen?, hm12]
         have hp13 := Lib.hid (((box_put4 htb12 (.int .i64 4) (.int .i64 0) (.string nm) (.slice (some ⟨W8.heap.size + 1, 0, none⟩) 2 2) rfl).2.2.1 W8.heap.size (by omega)).trans hp12)
         clear hb12
         go_wp2_with fail
         refine hK.out _ _ ?Spb6 (fun hH3 => ?restpb6)
         case Spb6 => (exact PS.out _ hp12)
         clear hK K
         try simp only [Act.put, sA, sB, sC]
         refine wpAnyH_ready (rs := [11]) (by kernel_rfl) (by simp) ?_
         refine rdH (fun K hK => ?_) ?nilpb11
         case nilpb11 => exact AllReadyH.nil
         go_simp
         refine hK.out _ _ ?Spb11 (fun hH4 => ?restpb11)
         case Spb11 => (exact PS.out _ hp13.out)
         clear hK K
         try simp only [Act.put, sA, sB, sC]
         refine tkH 12 ?_
         try simp only [opD, Act.put, sA, sB, sC]
         refine wpAnyH_ready (rs := [13]) (by kernel_rfl) (by simp) ?_
         refine rdH (fun K hK => ?_) ?nilpb13
         case nilpb13 => exact AllReadyH.nil
         go_simp
         refine hK.out _ _ ?Spb13 (fun hH5 => ?restpb13)
         case Spb13 => (exact PS.out _ ((Below.heap_setCell _ _ _ _ (by show W8.heap.size ≠ w.heap.size + 1; omega)).trans hp13.out))
         clear hK K
         try simp only [Act.put, sA, sB, sC]
         refine wpAnyH_done (by kernel_rfl) ?_ _
         have hbb : Below (W8.setCell ⟨w.heap.size + 1 + 1 + 1 + 1, 0, none⟩ (.slice (some ⟨gb, 0, none⟩) S.length cc)).heap.size (W8.setCell ⟨w.heap.size + 1 + 1 + 1 + 1, 0, none⟩ (.slice (some ⟨gb, 0, none⟩) S.length cc)) w12 := by
          rw [HN.out, HW9.out]
          exact ((((Below.refl w9.heap.size w9).alloc (Nat.le_refl _) _).drew).alloc (by simp) _).trans (hbx.out.mono (by simp; omega))
         have tpm : ∀ {t : T} {v : Value}, TP W8 (fun q => w.heap.size + 5 ≤ q ∧ q ≠ w6.heap.size) t v → TP w12 (fun q => w.heap.size + 5 ≤ q ∧ q ≠ w6.heap.size) t v := fun ht => ht.keep fun b cs f hS hb => ⟨(hbb.block b (by have := heap_lt hb; simp; omega)).trans ((Below.heap_setCell W8 _ _ b (heap_ne hb M8.out.cb.hs (by decide))).trans hb), hS⟩
         have MP0 := M8.out.popped (W1 := w12) hB hbb (t' := twoT nm lt t) (b0 := 4) (b1 := 0) (b2 := nm) (b3 := some ⟨W8.heap.size + 1, 0, none⟩) (b4 := 2) (b5 := 2)
          ⟨_, _, rfl, Nat.le_refl _, (fun h => by cases h), fun _ => ⟨W8.heap.size + 1, _, _, rfl, .inr (by omega), (hbx.out.block _ (by simp; omega)).trans (heap_at _ _ (by simp; omega)), fun i hi => by
           rcases (by omega : i = 0 ∨ i = 1) with rfl | rfl
           ·exact ⟨_, _, _, _, rfl, rfl, rfl, rfl, (tpm (M8.out.st _ List.mem_cons_self)).more fun b hb => .inl hb⟩
           ·exact ⟨_, _, _, _, rfl, rfl, rfl, rfl, (tpm M8.out.ht).more fun b hb => .inl hb⟩⟩⟩
         have MP := Lib.hid MP0
         clear MP0 hbb tpm hbx htb12 hm12 z0 z1 z2 z3 y0
         go_wp2_with fail
         go_roundw
         case rel => exact ⟨j, S, twoT nm lt t, 4, 0, nm, some ⟨W8.heap.size + 1, 0, none⟩, 2, 2, po, pp, ns', some ⟨gb, 0, none⟩, cc, rfl, MP.out, HKN⟩
         case measure =>
          rw [MP.out.rd.left_eq, M.out.rd.left_eq, MP.out.len_eq, M.out.len_eq]
          simp only [List.length_cons]
          omega
      ·
       have HNO := Lib.hid (show ∀ f, infixC c.tk c.s.size (termP c.tk c.s.size (d + 1 - 1 - S.length)) ms f t prio j ns' = .ok (t, j, ns') from fun f => infix_low (by rw [HXT.out]; exact hsome) (.inl (by omega)))
       have hKK := hK.out
       cases S with
       | nil =>
        have HR := Lib.hid (show RS = .ok (t, j, ns') by
         obtain ⟨f, _, h⟩ := hKK.eq
         rw [h]
         exact HNO.out f)
        have HG := Lib.hid (And.intro hKK.gd hKK.nod)
        have hc1 := M8.out.cb.cells.2.1
        obtain ⟨y0, y1, y2, y3⟩ := box4t M8.out.tbox
        obtain ⟨x0, x1, x2, x3⟩ := box4t M8.out.res
        have xf : ∀ j, W8.frozen? ⟨w.heap.size + 1 + 1 + 1, j, none⟩ = false := fun j => by simp [World.frozen?, M8.out.res]
        have hlj := M8.out.fr.size
        clear hKK hK c0 c1 c2
        go_wp2_with fail
        obtain ⟨p0, p1, p2, p3⟩ := box4t (box_put4 M8.out.res (.int .i64 a0) (.int .i64 a1) (.string a2) (.slice a3 a4 a5) rfl).1
        refine bodyPost_ret (v := .agg #[.int .i64 a0, .int .i64 a1, .string a2, .slice a3 a4 a5]) (by simp [results, go_sem, p0, p1, p2, p3]) rfl ?_
        exact ret_boxp M8.out.rd M8.out.fr hB M8.out.res (by omega) (M8.out.ht.more fun b hb => ⟨by omega, by omega⟩) (by have := HG.out.2; simp at this; omega) HG.out.1 (by have := HG.out.2; simpa using this) HR.out
       | cons ee S =>
        obtain ⟨nm, lt, e0, e1, e2, ea, em, ec, pp, po, ef⟩ := ee
        obtain ⟨n, hn⟩ : ∃ n, S.length = n := ⟨_, rfl⟩
        have HN := Lib.hid hn
        have HKN := Lib.hid (show TmK c (d + 1) i j S (twoT nm lt t) po pp ns' RS from by
         obtain ⟨q1, q2, q3⟩ := hKK.gs _ List.mem_cons_self
         refine ⟨two_good _ q2 q1 hKK.gd, fun e' he' => hKK.gs e' (List.mem_cons_of_mem _ he'), ?_, ?_, ef, q3, ?_⟩
         ·have h9 := hKK.nod
          have h8 : (twoT nm lt t).nodes = 1 + lt.nodes + t.nodes := two_nodes _ _ _
          rw [h8]
          simp only [List.map_cons, List.sum_cons] at h9
          omega
         ·have := hKK.len
          simp only [List.length_cons] at this
          omega
         ·obtain ⟨f, _, h⟩ := hKK.eq
          rw [h, HNO.out f]
          rfl)
        have hlen : n ≤ 64 := by have := hKK.len; simp only [List.length_cons] at this; omega
        have hrow := M8.out.row
        obtain ⟨A', cc', erow, hcc', hA', _, hxr⟩ := own_open hrow
        injection erow with er1 _ er3
        subst er1 er3
        obtain ⟨gb, cur, hgb, hgb0, hhb, hcur⟩ := hxr (by simp)
        have hcell : ∀ k, k < 7 → W8.cell? ⟨gb, n * 7 + k, none⟩ = (PE.cells ⟨nm, lt, e0, e1, e2, ea, em, ec, pp, po, ef⟩)[k]? := fun k hk => by
         rw [cell_of_row _ gb (n * 7 + k) _ _ _ hhb, hcur (n * 7 + k) (by simp only [List.length_cons]; omega)]
         show (stCells S ++ PE.cells ⟨nm, lt, e0, e1, e2, ea, em, ec, pp, po, ef⟩)[n * 7 + k]? = _
         rw [List.getElem?_append_right (by rw [st_len, hn]; omega), st_len, hn]
         congr 1
         omega
        have r0 : W8.cell? ⟨gb, n * 7, none⟩ = some (.string nm) := hcell 0 (by omega)
        have r1 : W8.cell? ⟨gb, n * 7 + 1, none⟩ = some (.int .i64 e0) := hcell 1 (by omega)
        have r2 : W8.cell? ⟨gb, n * 7 + 2, none⟩ = some (.int .i64 e1) := hcell 2 (by omega)
        have r3 : W8.cell? ⟨gb, n * 7 + 3, none⟩ = some (.string e2) := hcell 3 (by omega)
        have r4 : W8.cell? ⟨gb, n * 7 + 4, none⟩ = some (.slice ea em ec) := hcell 4 (by omega)
        have r5 : W8.cell? ⟨gb, n * 7 + 5, none⟩ = some (.int .i64 pp) := hcell 5 (by omega)
        have r6 : W8.cell? ⟨gb, n * 7 + 6, none⟩ = some (.int .i64 po) := hcell 6 (by omega)
        subst hgb
        have hsn : ((PE.mk nm lt e0 e1 e2 ea em ec pp po ef :: S).length) = n + 1 := by rw [List.length_cons, hn]
        have hc1 := M8.out.cb.cells.2.1
        rw [hsn] at hc1
        have hccn : n + 1 ≤ cc := by rw [hsn] at hcc'; exact hcc'
        have HC1 := Lib.hid hc1
        have hlw := M8.out.cb.lt
        obtain ⟨L0, L1, L2, L3⟩ := hlw
        have L1' := L1
        have L3' := L3
        try simp only [World.size_alloc] at L1' L3'
        have ltb := heap_lt M8.out.tbox
        have htbl := M8.out.htb
        have sf : ∀ j, W8.frozen? ⟨w.heap.size + 1 + 1 + 1 + 1, j, none⟩ = false := fun j => by simp [World.frozen?, M8.out.cb.hs]
        have hlgb := heap_lt hhb
        clear hKK hcell hhb hcur hxr hrow hA' hcc' hsn HC1
        have HL9 := Lib.hid (show (W8.setCell ⟨w.heap.size + 1 + 1 + 1 + 1, 0, none⟩ (.slice (some ⟨gb, 0, none⟩) n cc)).heap.size = W8.heap.size by simp)
        have HTB8 := Lib.hid ((Below.heap_setCell W8 ⟨w.heap.size + 1 + 1 + 1 + 1, 0, none⟩ (.slice (some ⟨gb, 0, none⟩) n cc) w6.heap.size (by show w6.heap.size ≠ w.heap.size + 1 + 1 + 1 + 1; omega)).trans M8.out.tbox)
        have HM48 := Lib.hid ((Below.heap_setCell W8 ⟨w.heap.size + 1 + 1 + 1 + 1, 0, none⟩ (.slice (some ⟨gb, 0, none⟩) n cc) (w.heap.size + 1) (by show w.heap.size + 1 ≠ w.heap.size + 1 + 1 + 1 + 1; omega)).trans M8.out.cb.hm)
        clear c0 c1 c2
        go_wp2_with fail
        obtain ⟨w9, hw9⟩ : ∃ w9, W8.setCell ⟨w.heap.size + 1 + 1 + 1 + 1, 0, none⟩ (.slice (some ⟨gb, 0, none⟩) n cc) = w9 := ⟨_, rfl⟩
        rw [hw9] at HTB8 HM48 HL9 ⊢
        have HW9 := Lib.hid hw9
        have hl9 := HL9.out
        have PB := Lib.hid (show (w9.alloc (Obj.cells #[.string nm, .int .i64 e0, .int .i64 e1, .string e2, .slice ea em ec, .int .i64 pp, .int .i64 po] 114)).heap[W8.heap.size]? = some (.cells #[.string nm, .int .i64 e0, .int .i64 e1, .string e2, .slice ea em ec, .int .i64 pp, .int .i64 po] 114 (0, 0)) by rw [← hl9]; exact heap_alloc_new w9 _)
        have HTB9 := Lib.hid ((Below.heap_alloc w9 (Obj.cells #[.string nm, .int .i64 e0, .int .i64 e1, .string e2, .slice ea em ec, .int .i64 pp, .int .i64 po] 114) w6.heap.size (by omega)).trans HTB8.out)
        have HM49 := Lib.hid ((Below.heap_alloc w9 (Obj.cells #[.string nm, .int .i64 e0, .int .i64 e1, .string e2, .slice ea em ec, .int .i64 pp, .int .i64 po] 114) (w.heap.size + 1) (by omega)).trans HM48.out)
        have HTC := Lib.hid (box4t HTB9.out)
        have PS := Lib.hid (fun (W : World) (h : W.heap[W8.heap.size]? = some (.cells #[.string nm, .int .i64 e0, .int .i64 e1, .string e2, .slice ea em ec, .int .i64 pp, .int .i64 po] 114 (0, 0))) => show W.cell? ⟨W8.heap.size, 0, none⟩ = some (.string nm) ∧ W.cell? ⟨W8.heap.size, 1, none⟩ = some (.int .i64 e0) ∧ W.cell? ⟨W8.heap.size, 2, none⟩ = some (.int .i64 e1) ∧ W.cell? ⟨W8.heap.size, 3, none⟩ = some (.string e2) ∧ W.cell? ⟨W8.heap.size, 4, none⟩ = some (.slice ea em ec) ∧ W.cell? ⟨W8.heap.size, 5, none⟩ = some (.int .i64 pp) ∧ W.cell? ⟨W8.heap.size, 6, none⟩ = some (.int .i64 po) from
         ⟨cell_of_row _ _ 0 _ _ _ h, cell_of_row _ _ 1 _ _ _ h, cell_of_row _ _ 2 _ _ _ h, cell_of_row _ _ 3 _ _ _ h, cell_of_row _ _ 4 _ _ _ h, cell_of_row _ _ 5 _ _ _ h, cell_of_row _ _ 6 _ _ _ h⟩)
        obtain ⟨n0, n1, n2, n3⟩ := HTC.out
        clear hw9 r0 r1 r2 r3 r4 r5 r6 hc1
        refine wp_region_held_drew (S := fun w1 => w1.cell? ⟨W8.heap.size, 0, none⟩ = some (.string nm) ∧ w1.cell? ⟨W8.heap.size, 1, none⟩ = some (.int .i64 e0) ∧ w1.cell? ⟨W8.heap.size, 2, none⟩ = some (.int .i64 e1) ∧ w1.cell? ⟨W8.heap.size, 3, none⟩ = some (.string e2) ∧ w1.cell? ⟨W8.heap.size, 4, none⟩ = some (.slice ea em ec) ∧ w1.cell? ⟨W8.heap.size, 5, none⟩ = some (.int .i64 pp) ∧ w1.cell? ⟨W8.heap.size, 6, none⟩ = some (.int .i64 po)) (by kernel_rfl) ?Spc (fun hH0 => ?Bpc)
        case Spc => (exact PS.out _ PB.out)
        refine tkH 0 ?_
        try simp only [opD, Act.put, sA, sB, sC]
        refine tkH 1 ?_
        try simp only [opD, Act.put, sA, sB, sC]
        refine tkH 2 ?_
        try simp only [opD, Act.put, sA, sB, sC]
        refine tkH 3 ?_
        try simp only [opD, Act.put, sA, sB, sC]
        refine tkH 7 ?_
        try simp only [opD, Act.put, sA, sB, sC]
        refine tkH 8 ?_
        try simp only [opD, Act.put, sA, sB, sC]
        refine tkH 9 ?_
        try simp only [opD, Act.put, sA, sB, sC]
        refine tkH 10 ?_
        try simp only [opD, Act.put, sA, sB, sC]
        refine wpAnyH_ready (rs := [4]) (by kernel_rfl) (by simp) ?_
        refine rdH (fun K hK => ?_) ?nilpc4
        case nilpc4 => exact AllReadyH.nil
        go_simp
        refine hK.out _ _ ?Spc4 (fun hH1 => ?restpc4)
        case Spc4 => (exact PS.out _ PB.out)
        clear hK K
        try simp only [Act.put, sA, sB, sC]
        refine wpAnyH_ready (rs := [5]) (by kernel_rfl) (by simp) ?_
        refine rdH (fun K hK => ?_) ?nilpc5
        case nilpc5 => exact AllReadyH.nil
        go_simp
        refine hK.out _ _ ?Spc5 (fun hH2 => ?restpc5)
        case Spc5 => (exact PS.out _ ((Below.heap_alloc _ _ _ (by simp; omega)).trans PB.out))
        clear hK K
        try simp only [Act.put, sA, sB, sC]
        refine wpAnyH_ready (rs := [6]) (by kernel_rfl) (by simp) ?_
        refine rdH (fun K hK => ?_) ?nilpc6
        case nilpc6 => exact AllReadyH.nil
        go_simp
        (refine (pcell_any nm _ 2 2 _).mono ?_)
        rintro e w12 ⟨rfl, hb12⟩
        have hbx := Lib.hid hb12
        have htb12 := (hb12.block w6.heap.size (by simp; omega)).trans ((Below.heap_alloc _ _ _ (by simp; omega)).trans HTB9.out)
        have hm12 := (hb12.block (w.heap.size + 1) (by simp; omega)).trans ((Below.heap_alloc _ _ _ (by simp; omega)).trans HM49.out)
        have hp12 := (hb12.block W8.heap.size (by simp; omega)).trans ((Below.heap_alloc _ _ _ (by simp; omega)).trans PB.out)
        obtain ⟨z0, z1, z2, z3⟩ := box4t htb12
        have zf : ∀ j, w12.frozen? ⟨w6.heap.size, j, none⟩ = false := fun j => by simp [World.frozen?, htb12]
        have y0 := cell_of_row _ _ 0 _ _ _ hm12
        have yf : ∀ j, w12.frozen? ⟨w.heap.size + 1, j, none⟩ = false := fun j => by simp [World.frozen?, hm12]
        have hp13 := Lib.hid (((box_put4 htb12 (.int .i64 4) (.int .i64 0) (.string nm) (.slice (some ⟨W8.heap.size + 1, 0, none⟩) 2 2) rfl).2.2.1 W8.heap.size (by omega)).trans hp12)
        clear hb12
        go_wp2_with fail
        refine hK.out _ _ ?Spc6 (fun hH3 => ?restpc6)
        case Spc6 => (exact PS.out _ hp12)
        clear hK K
        try simp only [Act.put, sA, sB, sC]
        refine wpAnyH_ready (rs := [11]) (by kernel_rfl) (by simp) ?_
        refine rdH (fun K hK => ?_) ?nilpc11
        case nilpc11 => exact AllReadyH.nil
        go_simp
        refine hK.out _ _ ?Spc11 (fun hH4 => ?restpc11)
        case Spc11 => (exact PS.out _ hp13.out)
        clear hK K
        try simp only [Act.put, sA, sB, sC]
        refine tkH 12 ?_
        try simp only [opD, Act.put, sA, sB, sC]
        refine wpAnyH_ready (rs := [13]) (by kernel_rfl) (by simp) ?_
        refine rdH (fun K hK => ?_) ?nilpc13
        case nilpc13 => exact AllReadyH.nil
        go_simp
        refine hK.out _ _ ?Spc13 (fun hH5 => ?restpc13)
        case Spc13 => (exact PS.out _ ((Below.heap_setCell _ _ _ _ (by show W8.heap.size ≠ w.heap.size + 1; omega)).trans hp13.out))
        clear hK K
        try simp only [Act.put, sA, sB, sC]
        refine wpAnyH_done (by kernel_rfl) ?_ _
        have hbb : Below (W8.setCell ⟨w.heap.size + 1 + 1 + 1 + 1, 0, none⟩ (.slice (some ⟨gb, 0, none⟩) S.length cc)).heap.size (W8.setCell ⟨w.heap.size + 1 + 1 + 1 + 1, 0, none⟩ (.slice (some ⟨gb, 0, none⟩) S.length cc)) w12 := by
         rw [HN.out, HW9.out]
         exact ((((Below.refl w9.heap.size w9).alloc (Nat.le_refl _) _).drew).alloc (by simp) _).trans (hbx.out.mono (by simp; omega))
        have tpm : ∀ {t : T} {v : Value}, TP W8 (fun q => w.heap.size + 5 ≤ q ∧ q ≠ w6.heap.size) t v → TP w12 (fun q => w.heap.size + 5 ≤ q ∧ q ≠ w6.heap.size) t v := fun ht => ht.keep fun b cs f hS hb => ⟨(hbb.block b (by have := heap_lt hb; simp; omega)).trans ((Below.heap_setCell W8 _ _ b (heap_ne hb M8.out.cb.hs (by decide))).trans hb), hS⟩
        have MP0 := M8.out.popped (W1 := w12) hB hbb (t' := twoT nm lt t) (b0 := 4) (b1 := 0) (b2 := nm) (b3 := some ⟨W8.heap.size + 1, 0, none⟩) (b4 := 2) (b5 := 2)
         ⟨_, _, rfl, Nat.le_refl _, (fun h => by cases h), fun _ => ⟨W8.heap.size + 1, _, _, rfl, .inr (by omega), (hbx.out.block _ (by simp; omega)).trans (heap_at _ _ (by simp; omega)), fun i hi => by
          rcases (by omega : i = 0 ∨ i = 1) with rfl | rfl
          ·exact ⟨_, _, _, _, rfl, rfl, rfl, rfl, (tpm (M8.out.st _ List.mem_cons_self)).more fun b hb => .inl hb⟩
          ·exact ⟨_, _, _, _, rfl, rfl, rfl, rfl, (tpm M8.out.ht).more fun b hb => .inl hb⟩⟩⟩
        have MP := Lib.hid MP0
        clear MP0 hbb tpm hbx htb12 hm12 z0 z1 z2 z3 y0
        go_wp2_with fail
        go_roundw
        case rel => exact ⟨j, S, twoT nm lt t, 4, 0, nm, some ⟨W8.heap.size + 1, 0, none⟩, 2, 2, po, pp, ns', some ⟨gb, 0, none⟩, cc, rfl, MP.out, HKN⟩
        case measure =>
         rw [MP.out.rd.left_eq, M.out.rd.left_eq, MP.out.len_eq, M.out.len_eq]
         simp only [List.length_cons]
         omega
    | false =>
     cases k5 : (x.k == 5) with
     | true =>
      cases ktx : (x.t.toList == [44]) with
      | true =>
       have HIS := Lib.hid (show ¬ ((nxT c.tk c.s.size j).k ≠ 1 ∧ isM c.tk c.s.size j ⟨#[44]⟩ = false) from fun h => by
        have h9 := h.2
        unfold isM at h9
        rw [HXT.out, k5] at h9
        rw [show (⟨#[44]⟩ : ByteArray).toList = [44] by rw [ByteArray.toList_eq], ktx] at h9
        cases h9)
       go_wp2_with fail
       refine (pinfix_any x.t _ (HE.out.fr M7.out.fr).ops).mono ?_
       rintro e W8 ⟨⟨pa, pb, pc, is, rfl, hr⟩, hb8⟩
       have M8 := Lib.hid (M7.out.stand (Frp.of_below hb8 M7.out.rd.base) (M7.out.rd.below hb8))
       have HB8 := Lib.hid hb8
       have hr' := hr.out
       obtain ⟨c0, c1, c2, c3⟩ := M8.out.cb.cells
       obtain ⟨l0, l1, l2, l3⟩ := M8.out.cb.lt
       clear hb8 hr
       cases is with
       | false =>
        have hnone : opIn x.t = none := by
         rcases hr' with ⟨h, _⟩ | ⟨_, h, _⟩
         ·cases h
         ·exact h
        clear hr'
        have HNO := Lib.hid (show ∀ f, infixC c.tk c.s.size (termP c.tk c.s.size (d + 1 - 1 - S.length)) ms f t prio j ns' = .ok (t, j, ns') from fun f => infix_none (by rw [HXT.out]; exact hnone))
        have hKK := hK.out
        cases S with
        | nil =>
         have HR := Lib.hid (show RS = .ok (t, j, ns') by
          obtain ⟨f, _, h⟩ := hKK.eq
          rw [h]
          exact HNO.out f)
         have HG := Lib.hid (And.intro hKK.gd hKK.nod)
         have hc1 := M8.out.cb.cells.2.1
         obtain ⟨y0, y1, y2, y3⟩ := box4t M8.out.tbox
         obtain ⟨x0, x1, x2, x3⟩ := box4t M8.out.res
         have xf : ∀ j, W8.frozen? ⟨w.heap.size + 1 + 1 + 1, j, none⟩ = false := fun j => by simp [World.frozen?, M8.out.res]
         have hlj := M8.out.fr.size
         clear hKK hK c0 c1 c2
         go_wp2_with fail
         obtain ⟨p0, p1, p2, p3⟩ := box4t (box_put4 M8.out.res (.int .i64 a0) (.int .i64 a1) (.string a2) (.slice a3 a4 a5) rfl).1
         refine bodyPost_ret (v := .agg #[.int .i64 a0, .int .i64 a1, .string a2, .slice a3 a4 a5]) (by simp [results, go_sem, p0, p1, p2, p3]) rfl ?_
         exact ret_boxp M8.out.rd M8.out.fr hB M8.out.res (by omega) (M8.out.ht.more fun b hb => ⟨by omega, by omega⟩) (by have := HG.out.2; simp at this; omega) HG.out.1 (by have := HG.out.2; simpa using this) HR.out
        | cons ee S =>
         obtain ⟨nm, lt, e0, e1, e2, ea, em, ec, pp, po, ef⟩ := ee
         obtain ⟨n, hn⟩ : ∃ n, S.length = n := ⟨_, rfl⟩
         have HN := Lib.hid hn
         have HKN := Lib.hid (show TmK c (d + 1) i j S (twoT nm lt t) po pp ns' RS from by
          obtain ⟨q1, q2, q3⟩ := hKK.gs _ List.mem_cons_self
          refine ⟨two_good _ q2 q1 hKK.gd, fun e' he' => hKK.gs e' (List.mem_cons_of_mem _ he'), ?_, ?_, ef, q3, ?_⟩
          ·have h9 := hKK.nod
           have h8 : (twoT nm lt t).nodes = 1 + lt.nodes + t.nodes := two_nodes _ _ _
           rw [h8]
           simp only [List.map_cons, List.sum_cons] at h9
           omega
          ·have := hKK.len
           simp only [List.length_cons] at this
           omega
          ·obtain ⟨f, _, h⟩ := hKK.eq
           rw [h, HNO.out f]
           rfl)
         have hlen : n ≤ 64 := by have := hKK.len; simp only [List.length_cons] at this; omega
         have hrow := M8.out.row
         obtain ⟨A', cc', erow, hcc', hA', _, hxr⟩ := own_open hrow
         injection erow with er1 _ er3
         subst er1 er3
         obtain ⟨gb, cur, hgb, hgb0, hhb, hcur⟩ := hxr (by simp)
         have hcell : ∀ k, k < 7 → W8.cell? ⟨gb, n * 7 + k, none⟩ = (PE.cells ⟨nm, lt, e0, e1, e2, ea, em, ec, pp, po, ef⟩)[k]? := fun k hk => by
          rw [cell_of_row _ gb (n * 7 + k) _ _ _ hhb, hcur (n * 7 + k) (by simp only [List.length_cons]; omega)]
          show (stCells S ++ PE.cells ⟨nm, lt, e0, e1, e2, ea, em, ec, pp, po, ef⟩)[n * 7 + k]? = _
          rw [List.getElem?_append_right (by rw [st_len, hn]; omega), st_len, hn]
          congr 1
          omega
         have r0 : W8.cell? ⟨gb, n * 7, none⟩ = some (.string nm) := hcell 0 (by omega)
         have r1 : W8.cell? ⟨gb, n * 7 + 1, none⟩ = some (.int .i64 e0) := hcell 1 (by omega)
         have r2 : W8.cell? ⟨gb, n * 7 + 2, none⟩ = some (.int .i64 e1) := hcell 2 (by omega)
         have r3 : W8.cell? ⟨gb, n * 7 + 3, none⟩ = some (.string e2) := hcell 3 (by omega)
         have r4 : W8.cell? ⟨gb, n * 7 + 4, none⟩ = some (.slice ea em ec) := hcell 4 (by omega)
         have r5 : W8.cell? ⟨gb, n * 7 + 5, none⟩ = some (.int .i64 pp) := hcell 5 (by omega)
         have r6 : W8.cell? ⟨gb, n * 7 + 6, none⟩ = some (.int .i64 po) := hcell 6 (by omega)
         subst hgb
         have hsn : ((PE.mk nm lt e0 e1 e2 ea em ec pp po ef :: S).length) = n + 1 := by rw [List.length_cons, hn]
         have hc1 := M8.out.cb.cells.2.1
         rw [hsn] at hc1
         have hccn : n + 1 ≤ cc := by rw [hsn] at hcc'; exact hcc'
         have HC1 := Lib.hid hc1
         have hlw := M8.out.cb.lt
         obtain ⟨L0, L1, L2, L3⟩ := hlw
         have L1' := L1
         have L3' := L3
         try simp only [World.size_alloc] at L1' L3'
         have ltb := heap_lt M8.out.tbox
         have htbl := M8.out.htb
         have sf : ∀ j, W8.frozen? ⟨w.heap.size + 1 + 1 + 1 + 1, j, none⟩ = false := fun j => by simp [World.frozen?, M8.out.cb.hs]
         have hlgb := heap_lt hhb
         clear hKK hcell hhb hcur hxr hrow hA' hcc' hsn HC1
         have HL9 := Lib.hid (show (W8.setCell ⟨w.heap.size + 1 + 1 + 1 + 1, 0, none⟩ (.slice (some ⟨gb, 0, none⟩) n cc)).heap.size = W8.heap.size by simp)
         have HTB8 := Lib.hid ((Below.heap_setCell W8 ⟨w.heap.size + 1 + 1 + 1 + 1, 0, none⟩ (.slice (some ⟨gb, 0, none⟩) n cc) w6.heap.size (by show w6.heap.size ≠ w.heap.size + 1 + 1 + 1 + 1; omega)).trans M8.out.tbox)
         have HM48 := Lib.hid ((Below.heap_setCell W8 ⟨w.heap.size + 1 + 1 + 1 + 1, 0, none⟩ (.slice (some ⟨gb, 0, none⟩) n cc) (w.heap.size + 1) (by show w.heap.size + 1 ≠ w.heap.size + 1 + 1 + 1 + 1; omega)).trans M8.out.cb.hm)
         clear c0 c1 c2
         go_wp2_with fail
         obtain ⟨w9, hw9⟩ : ∃ w9, W8.setCell ⟨w.heap.size + 1 + 1 + 1 + 1, 0, none⟩ (.slice (some ⟨gb, 0, none⟩) n cc) = w9 := ⟨_, rfl⟩
         rw [hw9] at HTB8 HM48 HL9 ⊢
         have HW9 := Lib.hid hw9
         have hl9 := HL9.out
         have PB := Lib.hid (show (w9.alloc (Obj.cells #[.string nm, .int .i64 e0, .int .i64 e1, .string e2, .slice ea em ec, .int .i64 pp, .int .i64 po] 114)).heap[W8.heap.size]? = some (.cells #[.string nm, .int .i64 e0, .int .i64 e1, .string e2, .slice ea em ec, .int .i64 pp, .int .i64 po] 114 (0, 0)) by rw [← hl9]; exact heap_alloc_new w9 _)
         have HTB9 := Lib.hid ((Below.heap_alloc w9 (Obj.cells #[.string nm, .int .i64 e0, .int .i64 e1, .string e2, .slice ea em ec, .int .i64 pp, .int .i64 po] 114) w6.heap.size (by omega)).trans HTB8.out)
         have HM49 := Lib.hid ((Below.heap_alloc w9 (Obj.cells #[.string nm, .int .i64 e0, .int .i64 e1, .string e2, .slice ea em ec, .int .i64 pp, .int .i64 po] 114) (w.heap.size + 1) (by omega)).trans HM48.out)
         have HTC := Lib.hid (box4t HTB9.out)
         have PS := Lib.hid (fun (W : World) (h : W.heap[W8.heap.size]? = some (.cells #[.string nm, .int .i64 e0, .int .i64 e1, .string e2, .slice ea em ec, .int .i64 pp, .int .i64 po] 114 (0, 0))) => show W.cell? ⟨W8.heap.size, 0, none⟩ = some (.string nm) ∧ W.cell? ⟨W8.heap.size, 1, none⟩ = some (.int .i64 e0) ∧ W.cell? ⟨W8.heap.size, 2, none⟩ = some (.int .i64 e1) ∧ W.cell? ⟨W8.heap.size, 3, none⟩ = some (.string e2) ∧ W.cell? ⟨W8.heap.size, 4, none⟩ = some (.slice ea em ec) ∧ W.cell? ⟨W8.heap.size, 5, none⟩ = some (.int .i64 pp) ∧ W.cell? ⟨W8.heap.size, 6, none⟩ = some (.int .i64 po) from
          ⟨cell_of_row _ _ 0 _ _ _ h, cell_of_row _ _ 1 _ _ _ h, cell_of_row _ _ 2 _ _ _ h, cell_of_row _ _ 3 _ _ _ h, cell_of_row _ _ 4 _ _ _ h, cell_of_row _ _ 5 _ _ _ h, cell_of_row _ _ 6 _ _ _ h⟩)
         obtain ⟨n0, n1, n2, n3⟩ := HTC.out
         clear hw9 r0 r1 r2 r3 r4 r5 r6 hc1
         refine wp_region_held_drew (S := fun w1 => w1.cell? ⟨W8.heap.size, 0, none⟩ = some (.string nm) ∧ w1.cell? ⟨W8.heap.size, 1, none⟩ = some (.int .i64 e0) ∧ w1.cell? ⟨W8.heap.size, 2, none⟩ = some (.int .i64 e1) ∧ w1.cell? ⟨W8.heap.size, 3, none⟩ = some (.string e2) ∧ w1.cell? ⟨W8.heap.size, 4, none⟩ = some (.slice ea em ec) ∧ w1.cell? ⟨W8.heap.size, 5, none⟩ = some (.int .i64 pp) ∧ w1.cell? ⟨W8.heap.size, 6, none⟩ = some (.int .i64 po)) (by kernel_rfl) ?Sqa (fun hH0 => ?Bqa)
         case Sqa => (exact PS.out _ PB.out)
         refine tkH 0 ?_
         try simp only [opD, Act.put, sA, sB, sC]
         refine tkH 1 ?_
         try simp only [opD, Act.put, sA, sB, sC]
         refine tkH 2 ?_
         try simp only [opD, Act.put, sA, sB, sC]
         refine tkH 3 ?_
         try simp only [opD, Act.put, sA, sB, sC]
         refine tkH 7 ?_
         try simp only [opD, Act.put, sA, sB, sC]
         refine tkH 8 ?_
         try simp only [opD, Act.put, sA, sB, sC]
         refine tkH 9 ?_
         try simp only [opD, Act.put, sA, sB, sC]
         refine tkH 10 ?_
         try simp only [opD, Act.put, sA, sB, sC]
         refine wpAnyH_ready (rs := [4]) (by kernel_rfl) (by simp) ?_
         refine rdH (fun K hK => ?_) ?nilqa4
         case nilqa4 => exact AllReadyH.nil
         go_simp
         refine hK.out _ _ ?Sqa4 (fun hH1 => ?restqa4)
         case Sqa4 => (exact PS.out _ PB.out)
         clear hK K
         try simp only [Act.put, sA, sB, sC]
         refine wpAnyH_ready (rs := [5]) (by kernel_rfl) (by simp) ?_
         refine rdH (fun K hK => ?_) ?nilqa5
         case nilqa5 => exact AllReadyH.nil
         go_simp
         refine hK.out _ _ ?Sqa5 (fun hH2 => ?restqa5)
         case Sqa5 => (exact PS.out _ ((Below.heap_alloc _ _ _ (by simp; omega)).trans PB.out))
         clear hK K
         try simp only [Act.put, sA, sB, sC]
         refine wpAnyH_ready (rs := [6]) (by kernel_rfl) (by simp) ?_
         refine rdH (fun K hK => ?_) ?nilqa6
         case nilqa6 => exact AllReadyH.nil
         go_simp
         (refine (pcell_any nm _ 2 2 _).mono ?_)
         rintro e w12 ⟨rfl, hb12⟩
         have hbx := Lib.hid hb12
         have htb12 := (hb12.block w6.heap.size (by simp; omega)).trans ((Below.heap_alloc _ _ _ (by simp; omega)).trans HTB9.out)
         have hm12 := (hb12.block (w.heap.size + 1) (by simp; omega)).trans ((Below.heap_alloc _ _ _ (by simp; omega)).trans HM49.out)
         have hp12 := (hb12.block W8.heap.size (by simp; omega)).trans ((Below.heap_alloc _ _ _ (by simp; omega)).trans PB.out)
         obtain ⟨z0, z1, z2, z3⟩ := box4t htb12
         have zf : ∀ j, w12.frozen? ⟨w6.heap.size, j, none⟩ = false := fun j => by simp [World.frozen?, htb12]
         have y0 := cell_of_row _ _ 0 _ _ _ hm12
         have yf : ∀ j, w12.frozen? ⟨w.heap.size + 1, j, none⟩ = false := fun j => by simp [World.frozen?, hm12]
         have hp13 := Lib.hid (((box_put4 htb12 (.int .i64 4) (.int .i64 0) (.string nm) (.slice (some ⟨W8.heap.size + 1, 0, none⟩) 2 2) rfl).2.2.1 W8.heap.size (by omega)).trans hp12)
         clear hb12
         go_wp2_with fail
         refine hK.out _ _ ?Sqa6 (fun hH3 => ?restqa6)
         case Sqa6 => (exact PS.out _ hp12)
         clear hK K
         try simp only [Act.put, sA, sB, sC]
         refine wpAnyH_ready (rs := [11]) (by kernel_rfl) (by simp) ?_
         refine rdH (fun K hK => ?_) ?nilqa11
         case nilqa11 => exact AllReadyH.nil
         go_simp
         refine hK.out _ _ ?Sqa11 (fun hH4 => ?restqa11)
         case Sqa11 => (exact PS.out _ hp13.out)
         clear hK K
         try simp only [Act.put, sA, sB, sC]
         refine tkH 12 ?_
         try simp only [opD, Act.put, sA, sB, sC]
         refine wpAnyH_ready (rs := [13]) (by kernel_rfl) (by simp) ?_
         refine rdH (fun K hK => ?_) ?nilqa13
         case nilqa13 => exact AllReadyH.nil
         go_simp
         refine hK.out _ _ ?Sqa13 (fun hH5 => ?restqa13)
         case Sqa13 => (exact PS.out _ ((Below.heap_setCell _ _ _ _ (by show W8.heap.size ≠ w.heap.size + 1; omega)).trans hp13.out))
         clear hK K
         try simp only [Act.put, sA, sB, sC]
         refine wpAnyH_done (by kernel_rfl) ?_ _
         have hbb : Below (W8.setCell ⟨w.heap.size + 1 + 1 + 1 + 1, 0, none⟩ (.slice (some ⟨gb, 0, none⟩) S.length cc)).heap.size (W8.setCell ⟨w.heap.size + 1 + 1 + 1 + 1, 0, none⟩ (.slice (some ⟨gb, 0, none⟩) S.length cc)) w12 := by
          rw [HN.out, HW9.out]
          exact ((((Below.refl w9.heap.size w9).alloc (Nat.le_refl _) _).drew).alloc (by simp) _).trans (hbx.out.mono (by simp; omega))
         have tpm : ∀ {t : T} {v : Value}, TP W8 (fun q => w.heap.size + 5 ≤ q ∧ q ≠ w6.heap.size) t v → TP w12 (fun q => w.heap.size + 5 ≤ q ∧ q ≠ w6.heap.size) t v := fun ht => ht.keep fun b cs f hS hb => ⟨(hbb.block b (by have := heap_lt hb; simp; omega)).trans ((Below.heap_setCell W8 _ _ b (heap_ne hb M8.out.cb.hs (by decide))).trans hb), hS⟩
         have MP0 := M8.out.popped (W1 := w12) hB hbb (t' := twoT nm lt t) (b0 := 4) (b1 := 0) (b2 := nm) (b3 := some ⟨W8.heap.size + 1, 0, none⟩) (b4 := 2) (b5 := 2)
          ⟨_, _, rfl, Nat.le_refl _, (fun h => by cases h), fun _ => ⟨W8.heap.size + 1, _, _, rfl, .inr (by omega), (hbx.out.block _ (by simp; omega)).trans (heap_at _ _ (by simp; omega)), fun i hi => by
           rcases (by omega : i = 0 ∨ i = 1) with rfl | rfl
           ·exact ⟨_, _, _, _, rfl, rfl, rfl, rfl, (tpm (M8.out.st _ List.mem_cons_self)).more fun b hb => .inl hb⟩
           ·exact ⟨_, _, _, _, rfl, rfl, rfl, rfl, (tpm M8.out.ht).more fun b hb => .inl hb⟩⟩⟩
         have MP := Lib.hid MP0
         clear MP0 hbb tpm hbx htb12 hm12 z0 z1 z2 z3 y0
         go_wp2_with fail
         go_roundw
         case rel => exact ⟨j, S, twoT nm lt t, 4, 0, nm, some ⟨W8.heap.size + 1, 0, none⟩, 2, 2, po, pp, ns', some ⟨gb, 0, none⟩, cc, rfl, MP.out, HKN⟩
         case measure =>
          rw [MP.out.rd.left_eq, M.out.rd.left_eq, MP.out.len_eq, M.out.len_eq]
          simp only [List.length_cons]
          omega
       | true =>
        have hsome : opIn x.t = some (pa, pb, pc) := by
         rcases hr' with ⟨_, h⟩ | ⟨h, _⟩
         ·exact h
         ·cases h
        clear hr'
        by_cases hpm : pa ≤ ms
        ·by_cases hpl : prio ≤ pb
         ·have hpl' : pb ≥ prio := hpl
          have hKK := hK.out
          have hk0 : (nx c j).k ≠ 0 := by
           rw [HX.out]
           intro h0
           rw [h0] at k1
           first
           | (simp at k1; done)
           | (rw [h0] at k5; simp at k5; done)
          have hjt := nx_ltp M8.out.rd hk0
          have CT := Lib.hid (ptake_any _ M8.out.rd hk0)
          have HNM := Lib.hid (nx_sizep M8.out.rd)
          rw [HX.out] at CT HNM
          have KX8 := Lib.hid ((HB8.out.block _ (heap_lt KX.out)).trans KX.out)
          have HGO := Lib.hid (show ∃ f, c.tn ≤ j + f + 1 ∧ RS = unw c.tk c.s.size (d + 1) (⟨x.t, t, a0, a1, a2, a3, a4, a5, pa, ms, f⟩ :: S) (termP c.tk c.s.size (d - S.length) pc (j + 1) ns') by
           obtain ⟨f, hf, h⟩ := hKK.eq
           obtain ⟨f, rfl⟩ : ∃ k, f = k + 1 := ⟨f - 1, by omega⟩
           refine ⟨f, by omega, ?_⟩
           rw [h, infix_go HIS.out (by rw [HXT.out]; exact hsome) (by omega), HXT.out]
           rfl)
          have hSl := hKK.len
          have HKK := Lib.hid hKK
          have hle := M8.out.fr.size
          clear hKK hK hk0
          go_wp2_with fail
          refine CT.out.mono ?_
          rintro e w9 ⟨rfl, h9, f9⟩
          have M9 := Lib.hid (M8.out.stand f9 h9)
          have KX9 := Lib.hid (f9.keep _ _ _ _ KX8.out (Nat.ne_of_gt hRw7) (fun h => absurd h (by decide)))
          obtain ⟨c0, c1, c2, c3⟩ := M9.out.cb.cells
          obtain ⟨l0, l1, l2, l3⟩ := M9.out.cb.lt
          obtain ⟨q0, q1, q2, q3⟩ := box4t KX9.out
          obtain ⟨y0, y1, y2, y3⟩ := box4t M9.out.tbox
          have hlq := heap_lt KX9.out
          have hlt9 := heap_lt M9.out.tbox
          have hB9 := Lib.hid ((Below.refl w9.heap.size w9).alloc (Nat.le_refl _) (Obj.cells #[.string x.t, .int .i64 a0, .int .i64 a1, .string a2, .slice a3 a4 a5, .int .i64 pa, .int .i64 ms] 114))
          have hS60 : S.length ≤ 65 := by omega
          have hfz := M9.out.fr.size
          clear h9 f9 CT
          go_wp2_with (at_builtin; go_must (refine wpList_append_cells _ rfl _ _ _ rfl elPend (w.heap.size + 5) _ _ _ rfl (own_below M9.out.row hB9.out) (some ⟨w9.heap.size, 0, none⟩) 1 1 [.string x.t, .int .i64 a0, .int .i64 a1, .string a2, .slice a3 a4 a5, .int .i64 pa, .int .i64 ms] rfl (fun h => by cases h) (Nat.le_refl _) rfl (fun _ => ⟨_, 0, rfl, ?_⟩) ?_ (by omega) (by unfold maxLen; omega) (by have := M9.out.htb; simp; omega) ?_))
          ·intro k u hu
           rw [Nat.zero_add, cell_of_row _ w9.heap.size k _ _ _ (heap_alloc_new _ _)]
           simpa using hu
          ·intro u hu
           simp only [List.mem_cons, List.not_mem_nil, or_false] at hu
           rcases hu with rfl | rfl | rfl | rfl | rfl | rfl | rfl <;> rfl
          intro v1 w10 hown1 hg1
          obtain ⟨A1, c1', rfl, _, _, _, _⟩ := own_open hown1
          obtain ⟨f, hf, hRS⟩ := HGO.out
          have M10 := Lib.hid (M9.out.pushed hB hB9.out hg1 x.t pa pc f hown1)
          have hs10 : w10.heap[w.heap.size + 1 + 1 + 1 + 1]? = some (.cells #[.slice sA S.length cc] 111 (0, 0)) := (hg1.block _ (by simp; omega) (own_neP (own_below M9.out.row hB9.out) ((hB9.out.block _ l1).trans M9.out.cb.hs) (by decide))).trans ((hB9.out.block _ l1).trans M9.out.cb.hs)
          have hm10 : w10.heap[w.heap.size + 1]? = some (.cells #[.int .i64 ms] 3 (0, 0)) := (hg1.block _ (by simp; omega) (own_neP (own_below M9.out.row hB9.out) ((hB9.out.block _ l3).trans M9.out.cb.hm) (by decide))).trans ((hB9.out.block _ l3).trans M9.out.cb.hm)
          have hcs10 := cell_of_row _ _ 0 _ _ _ hs10
          have hcm10 := cell_of_row _ _ 0 _ _ _ hm10
          have hfs10 : ∀ j, w10.frozen? ⟨w.heap.size + 1 + 1 + 1 + 1, j, none⟩ = false := fun j => by simp [World.frozen?, hs10]
          have hfm10 : ∀ j, w10.frozen? ⟨w.heap.size + 1, j, none⟩ = false := fun j => by simp [World.frozen?, hm10]
          have HRS2 := Lib.hid hRS
          have HF := Lib.hid hf
          clear hown1 hg1 hs10 hm10 hRS hf HGO c0 c1 c2 c3 q0 q1 q2 q3 y0 y1 y2 y3
          by_cases hdep : S.length + 1 ≤ d
          ·obtain ⟨mm, hmm⟩ : ∃ mm, d - S.length = mm + 1 := ⟨d - S.length - 1, by omega⟩
           have CE := Lib.hid (penter_ok (tm := termP c.tk c.s.size mm) D (S.length + 1) c1' A1 (by
            have h1 := IH mm (by omega)
            rw [show ((65 - mm : Nat) : Int) = ((D + (S.length + 1) : Nat) : Int) + 1 by omega] at h1
            exact h1) _ (j + 1) ns' M10.out.rd (HE.out.fr M10.out.fr) M10.out.cb (by omega))
           go_wp2_with fail
           refine CE.out.mono ?_
           rintro e w11 hq
           cases hres : operandP c.tk c.s.size (termP c.tk c.s.size mm) pc (j + 1) ns' with
           | error pk =>
            obtain ⟨p', k'⟩ := pk
            obtain ⟨f11, rfl⟩ := hq.err hres
            have HR := Lib.hid (show RS = .error (p', k') by rw [HRS2.out, hmm, termP, hres]; exact unw_err _ _ _ _ _)
            have F11 := Lib.hid (M10.out.fr.trans f11)
            clear hq hres f11 CE
            go_wp2_with fail
            refine ⟨rfl, ?_⟩
            rw [HR.out]
            exact ⟨F11.out, rfl⟩
           | ok yy =>
            obtain ⟨⟨t2, pr2⟩, j2, ns2⟩ := yy
            obtain ⟨f11, v, rfl, h11, hj2, tv, rfl, ht2, hg2, hn2⟩ := hq.ok hres
            obtain ⟨u0, u1, u2, uA, um, uc, rfl⟩ := ht2.agg
            have M11 := Lib.hid (M10.out.stand f11 h11)
            have hlt10 := heap_lt M10.out.tbox
            have hfz10 := M10.out.fr.size
            have M12 := Lib.hid (M11.out.put hB (ht2.more fun b hb => ⟨by have := M10.out.htb; omega, by omega⟩))
            have KN := Lib.hid (show TmK c (d + 1) i j2 (⟨x.t, t, a0, a1, a2, a3, a4, a5, pa, ms, f⟩ :: S) t2 pc pr2 ns2 RS from by
             have hkk := HKK.out
             refine ⟨hg2, fun e' he' => ?_, ?_, by simp only [List.length_cons]; omega, c.tk.length, by have := H.out.1.len; omega, ?_⟩
             ·rcases List.mem_cons.1 he' with rfl | he'
              ·exact ⟨hkk.gd, HNM.out, by show c.tn ≤ j2 + f; have := HF.out; omega⟩
              ·obtain ⟨g1, g2, g3⟩ := hkk.gs e' he'
               exact ⟨g1, g2, by omega⟩
             ·have h8 := hkk.nod
              have h9 : (j + 1) + t2.nodes ≤ j2 := hn2
              simp only [List.map_cons, List.sum_cons]
              omega
             ·rw [HRS2.out, hmm, termP, hres]
              show unw _ _ _ _ (infixC c.tk c.s.size (termP c.tk c.s.size mm) pc c.tk.length t2 pr2 j2 ns2) = _
              rw [show d + 1 - 1 - (PE.mk x.t t a0 a1 a2 a3 a4 a5 pa ms f :: S).length = mm by simp only [List.length_cons]; omega])
            have HJ2 := Lib.hid (And.intro hj2 hn2)
            obtain ⟨y0, y1, y2, y3⟩ := box4t M11.out.tbox
            have yf : ∀ j, w11.frozen? ⟨w6.heap.size, j, none⟩ = false := fun j => by simp [World.frozen?, M11.out.tbox]
            clear hq hres f11 h11 ht2 hg2 hn2 CE
            go_wp2_with fail
            go_roundw
            case rel => exact ⟨j2, _, t2, u0, u1, u2, uA, um, uc, pc, pr2, ns2, A1, c1', rfl, M12.out, KN⟩
            case measure =>
             rw [M12.out.rd.left_eq, M.out.rd.left_eq, M12.out.len_eq, M.out.len_eq]
             have := HJ2.out.1
             simp only [List.length_cons]
             omega
          ·have hd0 : d - S.length = 0 := by omega
           have CE := Lib.hid (penter_no D (S.length + 1) c1' A1 _ (j + 1) ns' M10.out.rd M10.out.cb (by omega) (by omega) (by omega))
           have HR := Lib.hid (show RS = .error (((nx c (j + 1)).a : Int), 52) by rw [HRS2.out, hd0]; exact unw_err _ _ _ _ _)
           go_wp2_with fail
           refine CE.out.mono ?_
           rintro e w11 ⟨rfl, f11⟩
           have F11 := Lib.hid (M10.out.fr.trans f11)
           clear f11 CE
           go_wp2_with fail
           refine ⟨rfl, ?_⟩
           rw [HR.out]
           exact ⟨F11.out, rfl⟩
         ·have hpl' : ¬ (pb ≥ prio) := hpl
          have HNO := Lib.hid (show ∀ f, infixC c.tk c.s.size (termP c.tk c.s.size (d + 1 - 1 - S.length)) ms f t prio j ns' = .ok (t, j, ns') from fun f => infix_low (by rw [HXT.out]; exact hsome) (.inr (by omega)))
          have hKK := hK.out
          cases S with
          | nil =>
           have HR := Lib.hid (show RS = .ok (t, j, ns') by
            obtain ⟨f, _, h⟩ := hKK.eq
            rw [h]
            exact HNO.out f)
           have HG := Lib.hid (And.intro hKK.gd hKK.nod)
           have hc1 := M8.out.cb.cells.2.1
           obtain ⟨y0, y1, y2, y3⟩ := box4t M8.out.tbox
           obtain ⟨x0, x1, x2, x3⟩ := box4t M8.out.res
           have xf : ∀ j, W8.frozen? ⟨w.heap.size + 1 + 1 + 1, j, none⟩ = false := fun j => by simp [World.frozen?, M8.out.res]
           have hlj := M8.out.fr.size
           clear hKK hK c0 c1 c2
           go_wp2_with fail
           obtain ⟨p0, p1, p2, p3⟩ := box4t (box_put4 M8.out.res (.int .i64 a0) (.int .i64 a1) (.string a2) (.slice a3 a4 a5) rfl).1
           refine bodyPost_ret (v := .agg #[.int .i64 a0, .int .i64 a1, .string a2, .slice a3 a4 a5]) (by simp [results, go_sem, p0, p1, p2, p3]) rfl ?_
           exact ret_boxp M8.out.rd M8.out.fr hB M8.out.res (by omega) (M8.out.ht.more fun b hb => ⟨by omega, by omega⟩) (by have := HG.out.2; simp at this; omega) HG.out.1 (by have := HG.out.2; simpa using this) HR.out
          | cons ee S =>
           obtain ⟨nm, lt, e0, e1, e2, ea, em, ec, pp, po, ef⟩ := ee
           obtain ⟨n, hn⟩ : ∃ n, S.length = n := ⟨_, rfl⟩
           have HN := Lib.hid hn
           have HKN := Lib.hid (show TmK c (d + 1) i j S (twoT nm lt t) po pp ns' RS from by
            obtain ⟨q1, q2, q3⟩ := hKK.gs _ List.mem_cons_self
            refine ⟨two_good _ q2 q1 hKK.gd, fun e' he' => hKK.gs e' (List.mem_cons_of_mem _ he'), ?_, ?_, ef, q3, ?_⟩
            ·have h9 := hKK.nod
             have h8 : (twoT nm lt t).nodes = 1 + lt.nodes + t.nodes := two_nodes _ _ _
             rw [h8]
             simp only [List.map_cons, List.sum_cons] at h9
             omega
            ·have := hKK.len
             simp only [List.length_cons] at this
             omega
            ·obtain ⟨f, _, h⟩ := hKK.eq
             rw [h, HNO.out f]
             rfl)
           have hlen : n ≤ 64 := by have := hKK.len; simp only [List.length_cons] at this; omega
           have hrow := M8.out.row
           obtain ⟨A', cc', erow, hcc', hA', _, hxr⟩ := own_open hrow
           injection erow with er1 _ er3
           subst er1 er3
           obtain ⟨gb, cur, hgb, hgb0, hhb, hcur⟩ := hxr (by simp)
           have hcell : ∀ k, k < 7 → W8.cell? ⟨gb, n * 7 + k, none⟩ = (PE.cells ⟨nm, lt, e0, e1, e2, ea, em, ec, pp, po, ef⟩)[k]? := fun k hk => by
            rw [cell_of_row _ gb (n * 7 + k) _ _ _ hhb, hcur (n * 7 + k) (by simp only [List.length_cons]; omega)]
            show (stCells S ++ PE.cells ⟨nm, lt, e0, e1, e2, ea, em, ec, pp, po, ef⟩)[n * 7 + k]? = _
            rw [List.getElem?_append_right (by rw [st_len, hn]; omega), st_len, hn]
            congr 1
            omega
           have r0 : W8.cell? ⟨gb, n * 7, none⟩ = some (.string nm) := hcell 0 (by omega)
           have r1 : W8.cell? ⟨gb, n * 7 + 1, none⟩ = some (.int .i64 e0) := hcell 1 (by omega)
           have r2 : W8.cell? ⟨gb, n * 7 + 2, none⟩ = some (.int .i64 e1) := hcell 2 (by omega)
           have r3 : W8.cell? ⟨gb, n * 7 + 3, none⟩ = some (.string e2) := hcell 3 (by omega)
           have r4 : W8.cell? ⟨gb, n * 7 + 4, none⟩ = some (.slice ea em ec) := hcell 4 (by omega)
           have r5 : W8.cell? ⟨gb, n * 7 + 5, none⟩ = some (.int .i64 pp) := hcell 5 (by omega)
           have r6 : W8.cell? ⟨gb, n * 7 + 6, none⟩ = some (.int .i64 po) := hcell 6 (by omega)
           subst hgb
           have hsn : ((PE.mk nm lt e0 e1 e2 ea em ec pp po ef :: S).length) = n + 1 := by rw [List.length_cons, hn]
           have hc1 := M8.out.cb.cells.2.1
           rw [hsn] at hc1
           have hccn : n + 1 ≤ cc := by rw [hsn] at hcc'; exact hcc'
           have HC1 := Lib.hid hc1
           have hlw := M8.out.cb.lt
           obtain ⟨L0, L1, L2, L3⟩ := hlw
           have L1' := L1
           have L3' := L3
           try simp only [World.size_alloc] at L1' L3'
           have ltb := heap_lt M8.out.tbox
           have htbl := M8.out.htb
           have sf : ∀ j, W8.frozen? ⟨w.heap.size + 1 + 1 + 1 + 1, j, none⟩ = false := fun j => by simp [World.frozen?, M8.out.cb.hs]
           have hlgb := heap_lt hhb
           clear hKK hcell hhb hcur hxr hrow hA' hcc' hsn HC1
           have HL9 := Lib.hid (show (W8.setCell ⟨w.heap.size + 1 + 1 + 1 + 1, 0, none⟩ (.slice (some ⟨gb, 0, none⟩) n cc)).heap.size = W8.heap.size by simp)
           have HTB8 := Lib.hid ((Below.heap_setCell W8 ⟨w.heap.size + 1 + 1 + 1 + 1, 0, none⟩ (.slice (some ⟨gb, 0, none⟩) n cc) w6.heap.size (by show w6.heap.size ≠ w.heap.size + 1 + 1 + 1 + 1; omega)).trans M8.out.tbox)
           have HM48 := Lib.hid ((Below.heap_setCell W8 ⟨w.heap.size + 1 + 1 + 1 + 1, 0, none⟩ (.slice (some ⟨gb, 0, none⟩) n cc) (w.heap.size + 1) (by show w.heap.size + 1 ≠ w.heap.size + 1 + 1 + 1 + 1; omega)).trans M8.out.cb.hm)
           clear c0 c1 c2
           go_wp2_with fail
           obtain ⟨w9, hw9⟩ : ∃ w9, W8.setCell ⟨w.heap.size + 1 + 1 + 1 + 1, 0, none⟩ (.slice (some ⟨gb, 0, none⟩) n cc) = w9 := ⟨_, rfl⟩
           rw [hw9] at HTB8 HM48 HL9 ⊢
           have HW9 := Lib.hid hw9
           have hl9 := HL9.out
           have PB := Lib.hid (show (w9.alloc (Obj.cells #[.string nm, .int .i64 e0, .int .i64 e1, .string e2, .slice ea em ec, .int .i64 pp, .int .i64 po] 114)).heap[W8.heap.size]? = some (.cells #[.string nm, .int .i64 e0, .int .i64 e1, .string e2, .slice ea em ec, .int .i64 pp, .int .i64 po] 114 (0, 0)) by rw [← hl9]; exact heap_alloc_new w9 _)
           have HTB9 := Lib.hid ((Below.heap_alloc w9 (Obj.cells #[.string nm, .int .i64 e0, .int .i64 e1, .string e2, .slice ea em ec, .int .i64 pp, .int .i64 po] 114) w6.heap.size (by omega)).trans HTB8.out)
           have HM49 := Lib.hid ((Below.heap_alloc w9 (Obj.cells #[.string nm, .int .i64 e0, .int .i64 e1, .string e2, .slice ea em ec, .int .i64 pp, .int .i64 po] 114) (w.heap.size + 1) (by omega)).trans HM48.out)
           have HTC := Lib.hid (box4t HTB9.out)
           have PS := Lib.hid (fun (W : World) (h : W.heap[W8.heap.size]? = some (.cells #[.string nm, .int .i64 e0, .int .i64 e1, .string e2, .slice ea em ec, .int .i64 pp, .int .i64 po] 114 (0, 0))) => show W.cell? ⟨W8.heap.size, 0, none⟩ = some (.string nm) ∧ W.cell? ⟨W8.heap.size, 1, none⟩ = some (.int .i64 e0) ∧ W.cell? ⟨W8.heap.size, 2, none⟩ = some (.int .i64 e1) ∧ W.cell? ⟨W8.heap.size, 3, none⟩ = some (.string e2) ∧ W.cell? ⟨W8.heap.size, 4, none⟩ = some (.slice ea em ec) ∧ W.cell? ⟨W8.heap.size, 5, none⟩ = some (.int .i64 pp) ∧ W.cell? ⟨W8.heap.size, 6, none⟩ = some (.int .i64 po) from
            ⟨cell_of_row _ _ 0 _ _ _ h, cell_of_row _ _ 1 _ _ _ h, cell_of_row _ _ 2 _ _ _ h, cell_of_row _ _ 3 _ _ _ h, cell_of_row _ _ 4 _ _ _ h, cell_of_row _ _ 5 _ _ _ h, cell_of_row _ _ 6 _ _ _ h⟩)
           obtain ⟨n0, n1, n2, n3⟩ := HTC.out
           clear hw9 r0 r1 r2 r3 r4 r5 r6 hc1
           refine wp_region_held_drew (S := fun w1 => w1.cell? ⟨W8.heap.size, 0, none⟩ = some (.string nm) ∧ w1.cell? ⟨W8.heap.size, 1, none⟩ = some (.int .i64 e0) ∧ w1.cell? ⟨W8.heap.size, 2, none⟩ = some (.int .i64 e1) ∧ w1.cell? ⟨W8.heap.size, 3, none⟩ = some (.string e2) ∧ w1.cell? ⟨W8.heap.size, 4, none⟩ = some (.slice ea em ec) ∧ w1.cell? ⟨W8.heap.size, 5, none⟩ = some (.int .i64 pp) ∧ w1.cell? ⟨W8.heap.size, 6, none⟩ = some (.int .i64 po)) (by kernel_rfl) ?Sqb (fun hH0 => ?Bqb)
           case Sqb => (exact PS.out _ PB.out)
           refine tkH 0 ?_
           try simp only [opD, Act.put, sA, sB, sC]
           refine tkH 1 ?_
           try simp only [opD, Act.put, sA, sB, sC]
           refine tkH 2 ?_
           try simp only [opD, Act.put, sA, sB, sC]
           refine tkH 3 ?_
           try simp only [opD, Act.put, sA, sB, sC]
           refine tkH 7 ?_
           try simp only [opD, Act.put, sA, sB, sC]
           refine tkH 8 ?_
           try simp only [opD, Act.put, sA, sB, sC]
           refine tkH 9 ?_
           try simp only [opD, Act.put, sA, sB, sC]
           refine tkH 10 ?_
           try simp only [opD, Act.put, sA, sB, sC]
           refine wpAnyH_ready (rs := [4]) (by kernel_rfl) (by simp) ?_
           refine rdH (fun K hK => ?_) ?nilqb4
           case nilqb4 => exact AllReadyH.nil
           go_simp
           refine hK.out _ _ ?Sqb4 (fun hH1 => ?restqb4)
           case Sqb4 => (exact PS.out _ PB.out)
           clear hK K
           try simp only [Act.put, sA, sB, sC]
           refine wpAnyH_ready (rs := [5]) (by kernel_rfl) (by simp) ?_
           refine rdH (fun K hK => ?_) ?nilqb5
           case nilqb5 => exact AllReadyH.nil
           go_simp
           refine hK.out _ _ ?Sqb5 (fun hH2 => ?restqb5)
           case Sqb5 => (exact PS.out _ ((Below.heap_alloc _ _ _ (by simp; omega)).trans PB.out))
           clear hK K
           try simp only [Act.put, sA, sB, sC]
           refine wpAnyH_ready (rs := [6]) (by kernel_rfl) (by simp) ?_
           refine rdH (fun K hK => ?_) ?nilqb6
           case nilqb6 => exact AllReadyH.nil
           go_simp
           (refine (pcell_any nm _ 2 2 _).mono ?_)
           rintro e w12 ⟨rfl, hb12⟩
           have hbx := Lib.hid hb12
           have htb12 := (hb12.block w6.heap.size (by simp; omega)).trans ((Below.heap_alloc _ _ _ (by simp; omega)).trans HTB9.out)
           have hm12 := (hb12.block (w.heap.size + 1) (by simp; omega)).trans ((Below.heap_alloc _ _ _ (by simp; omega)).trans HM49.out)
           have hp12 := (hb12.block W8.heap.size (by simp; omega)).trans ((Below.heap_alloc _ _ _ (by simp; omega)).trans PB.out)
           obtain ⟨z0, z1, z2, z3⟩ := box4t htb12
           have zf : ∀ j, w12.frozen? ⟨w6.heap.size, j, none⟩ = false := fun j => by simp [World.frozen?, htb12]
           have y0 := cell_of_row _ _ 0 _ _ _ hm12
           have yf : ∀ j, w12.frozen? ⟨w.heap.size + 1, j, none⟩ = false := fun j => by simp [World.frozen?, hm12]
           have hp13 := Lib.hid (((box_put4 htb12 (.int .i64 4) (.int .i64 0) (.string nm) (.slice (some ⟨W8.heap.size + 1, 0, none⟩) 2 2) rfl).2.2.1 W8.heap.size (by omega)).trans hp12)
           clear hb12
           go_wp2_with fail
           refine hK.out _ _ ?Sqb6 (fun hH3 => ?restqb6)
           case Sqb6 => (exact PS.out _ hp12)
           clear hK K
           try simp only [Act.put, sA, sB, sC]
           refine wpAnyH_ready (rs := [11]) (by kernel_rfl) (by simp) ?_
           refine rdH (fun K hK => ?_) ?nilqb11
           case nilqb11 => exact AllReadyH.nil
           go_simp
           refine hK.out _ _ ?Sqb11 (fun hH4 => ?restqb11)
           case Sqb11 => (exact PS.out _ hp13.out)
           clear hK K
           try simp only [Act.put, sA, sB, sC]
           refine tkH 12 ?_
           try simp only [opD, Act.put, sA, sB, sC]
           refine wpAnyH_ready (rs := [13]) (by kernel_rfl) (by simp) ?_
           refine rdH (fun K hK => ?_) ?nilqb13
           case nilqb13 => exact AllReadyH.nil
           go_simp
           refine hK.out _ _ ?Sqb13 (fun hH5 => ?restqb13)
           case Sqb13 => (exact PS.out _ ((Below.heap_setCell _ _ _ _ (by show W8.heap.size ≠ w.heap.size + 1; omega)).trans hp13.out))
           clear hK K
           try simp only [Act.put, sA, sB, sC]
           refine wpAnyH_done (by kernel_rfl) ?_ _
           have hbb : Below (W8.setCell ⟨w.heap.size + 1 + 1 + 1 + 1, 0, none⟩ (.slice (some ⟨gb, 0, none⟩) S.length cc)).heap.size (W8.setCell ⟨w.heap.size + 1 + 1 + 1 + 1, 0, none⟩ (.slice (some ⟨gb, 0, none⟩) S.length cc)) w12 := by
            rw [HN.out, HW9.out]
            exact ((((Below.refl w9.heap.size w9).alloc (Nat.le_refl _) _).drew).alloc (by simp) _).trans (hbx.out.mono (by simp; omega))
           have tpm : ∀ {t : T} {v : Value}, TP W8 (fun q => w.heap.size + 5 ≤ q ∧ q ≠ w6.heap.size) t v → TP w12 (fun q => w.heap.size + 5 ≤ q ∧ q ≠ w6.heap.size) t v := fun ht => ht.keep fun b cs f hS hb => ⟨(hbb.block b (by have := heap_lt hb; simp; omega)).trans ((Below.heap_setCell W8 _ _ b (heap_ne hb M8.out.cb.hs (by decide))).trans hb), hS⟩
           have MP0 := M8.out.popped (W1 := w12) hB hbb (t' := twoT nm lt t) (b0 := 4) (b1 := 0) (b2 := nm) (b3 := some ⟨W8.heap.size + 1, 0, none⟩) (b4 := 2) (b5 := 2)
            ⟨_, _, rfl, Nat.le_refl _, (fun h => by cases h), fun _ => ⟨W8.heap.size + 1, _, _, rfl, .inr (by omega), (hbx.out.block _ (by simp; omega)).trans (heap_at _ _ (by simp; omega)), fun i hi => by
             rcases (by omega : i = 0 ∨ i = 1) with rfl | rfl
             ·exact ⟨_, _, _, _, rfl, rfl, rfl, rfl, (tpm (M8.out.st _ List.mem_cons_self)).more fun b hb => .inl hb⟩
             ·exact ⟨_, _, _, _, rfl, rfl, rfl, rfl, (tpm M8.out.ht).more fun b hb => .inl hb⟩⟩⟩
           have MP := Lib.hid MP0
           clear MP0 hbb tpm hbx htb12 hm12 z0 z1 z2 z3 y0
           go_wp2_with fail
           go_roundw
           case rel => exact ⟨j, S, twoT nm lt t, 4, 0, nm, some ⟨W8.heap.size + 1, 0, none⟩, 2, 2, po, pp, ns', some ⟨gb, 0, none⟩, cc, rfl, MP.out, HKN⟩
           case measure =>
            rw [MP.out.rd.left_eq, M.out.rd.left_eq, MP.out.len_eq, M.out.len_eq]
            simp only [List.length_cons]
            omega
        ·
         have HNO := Lib.hid (show ∀ f, infixC c.tk c.s.size (termP c.tk c.s.size (d + 1 - 1 - S.length)) ms f t prio j ns' = .ok (t, j, ns') from fun f => infix_low (by rw [HXT.out]; exact hsome) (.inl (by omega)))
         have hKK := hK.out
         cases S with
         | nil =>
          have HR := Lib.hid (show RS = .ok (t, j, ns') by
           obtain ⟨f, _, h⟩ := hKK.eq
           rw [h]
           exact HNO.out f)
          have HG := Lib.hid (And.intro hKK.gd hKK.nod)
          have hc1 := M8.out.cb.cells.2.1
          obtain ⟨y0, y1, y2, y3⟩ := box4t M8.out.tbox
          obtain ⟨x0, x1, x2, x3⟩ := box4t M8.out.res
          have xf : ∀ j, W8.frozen? ⟨w.heap.size + 1 + 1 + 1, j, none⟩ = false := fun j => by simp [World.frozen?, M8.out.res]
          have hlj := M8.out.fr.size
          clear hKK hK c0 c1 c2
          go_wp2_with fail
          obtain ⟨p0, p1, p2, p3⟩ := box4t (box_put4 M8.out.res (.int .i64 a0) (.int .i64 a1) (.string a2) (.slice a3 a4 a5) rfl).1
          refine bodyPost_ret (v := .agg #[.int .i64 a0, .int .i64 a1, .string a2, .slice a3 a4 a5]) (by simp [results, go_sem, p0, p1, p2, p3]) rfl ?_
          exact ret_boxp M8.out.rd M8.out.fr hB M8.out.res (by omega) (M8.out.ht.more fun b hb => ⟨by omega, by omega⟩) (by have := HG.out.2; simp at this; omega) HG.out.1 (by have := HG.out.2; simpa using this) HR.out
         | cons ee S =>
          obtain ⟨nm, lt, e0, e1, e2, ea, em, ec, pp, po, ef⟩ := ee
          obtain ⟨n, hn⟩ : ∃ n, S.length = n := ⟨_, rfl⟩
          have HN := Lib.hid hn
          have HKN := Lib.hid (show TmK c (d + 1) i j S (twoT nm lt t) po pp ns' RS from by
           obtain ⟨q1, q2, q3⟩ := hKK.gs _ List.mem_cons_self
           refine ⟨two_good _ q2 q1 hKK.gd, fun e' he' => hKK.gs e' (List.mem_cons_of_mem _ he'), ?_, ?_, ef, q3, ?_⟩
           ·have h9 := hKK.nod
            have h8 : (twoT nm lt t).nodes = 1 + lt.nodes + t.nodes := two_nodes _ _ _
            rw [h8]
            simp only [List.map_cons, List.sum_cons] at h9
            omega
           ·have := hKK.len
            simp only [List.length_cons] at this
            omega
           ·obtain ⟨f, _, h⟩ := hKK.eq
            rw [h, HNO.out f]
            rfl)
          have hlen : n ≤ 64 := by have := hKK.len; simp only [List.length_cons] at this; omega
          have hrow := M8.out.row
          obtain ⟨A', cc', erow, hcc', hA', _, hxr⟩ := own_open hrow
          injection erow with er1 _ er3
          subst er1 er3
          obtain ⟨gb, cur, hgb, hgb0, hhb, hcur⟩ := hxr (by simp)
          have hcell : ∀ k, k < 7 → W8.cell? ⟨gb, n * 7 + k, none⟩ = (PE.cells ⟨nm, lt, e0, e1, e2, ea, em, ec, pp, po, ef⟩)[k]? := fun k hk => by
           rw [cell_of_row _ gb (n * 7 + k) _ _ _ hhb, hcur (n * 7 + k) (by simp only [List.length_cons]; omega)]
           show (stCells S ++ PE.cells ⟨nm, lt, e0, e1, e2, ea, em, ec, pp, po, ef⟩)[n * 7 + k]? = _
           rw [List.getElem?_append_right (by rw [st_len, hn]; omega), st_len, hn]
           congr 1
           omega
          have r0 : W8.cell? ⟨gb, n * 7, none⟩ = some (.string nm) := hcell 0 (by omega)
          have r1 : W8.cell? ⟨gb, n * 7 + 1, none⟩ = some (.int .i64 e0) := hcell 1 (by omega)
          have r2 : W8.cell? ⟨gb, n * 7 + 2, none⟩ = some (.int .i64 e1) := hcell 2 (by omega)
          have r3 : W8.cell? ⟨gb, n * 7 + 3, none⟩ = some (.string e2) := hcell 3 (by omega)
          have r4 : W8.cell? ⟨gb, n * 7 + 4, none⟩ = some (.slice ea em ec) := hcell 4 (by omega)
          have r5 : W8.cell? ⟨gb, n * 7 + 5, none⟩ = some (.int .i64 pp) := hcell 5 (by omega)
          have r6 : W8.cell? ⟨gb, n * 7 + 6, none⟩ = some (.int .i64 po) := hcell 6 (by omega)
          subst hgb
          have hsn : ((PE.mk nm lt e0 e1 e2 ea em ec pp po ef :: S).length) = n + 1 := by rw [List.length_cons, hn]
          have hc1 := M8.out.cb.cells.2.1
          rw [hsn] at hc1
          have hccn : n + 1 ≤ cc := by rw [hsn] at hcc'; exact hcc'
          have HC1 := Lib.hid hc1
          have hlw := M8.out.cb.lt
          obtain ⟨L0, L1, L2, L3⟩ := hlw
          have L1' := L1
          have L3' := L3
          try simp only [World.size_alloc] at L1' L3'
          have ltb := heap_lt M8.out.tbox
          have htbl := M8.out.htb
          have sf : ∀ j, W8.frozen? ⟨w.heap.size + 1 + 1 + 1 + 1, j, none⟩ = false := fun j => by simp [World.frozen?, M8.out.cb.hs]
          have hlgb := heap_lt hhb
          clear hKK hcell hhb hcur hxr hrow hA' hcc' hsn HC1
          have HL9 := Lib.hid (show (W8.setCell ⟨w.heap.size + 1 + 1 + 1 + 1, 0, none⟩ (.slice (some ⟨gb, 0, none⟩) n cc)).heap.size = W8.heap.size by simp)
          have HTB8 := Lib.hid ((Below.heap_setCell W8 ⟨w.heap.size + 1 + 1 + 1 + 1, 0, none⟩ (.slice (some ⟨gb, 0, none⟩) n cc) w6.heap.size (by show w6.heap.size ≠ w.heap.size + 1 + 1 + 1 + 1; omega)).trans M8.out.tbox)
          have HM48 := Lib.hid ((Below.heap_setCell W8 ⟨w.heap.size + 1 + 1 + 1 + 1, 0, none⟩ (.slice (some ⟨gb, 0, none⟩) n cc) (w.heap.size + 1) (by show w.heap.size + 1 ≠ w.heap.size + 1 + 1 + 1 + 1; omega)).trans M8.out.cb.hm)
          clear c0 c1 c2
          go_wp2_with fail
          obtain ⟨w9, hw9⟩ : ∃ w9, W8.setCell ⟨w.heap.size + 1 + 1 + 1 + 1, 0, none⟩ (.slice (some ⟨gb, 0, none⟩) n cc) = w9 := ⟨_, rfl⟩
          rw [hw9] at HTB8 HM48 HL9 ⊢
          have HW9 := Lib.hid hw9
          have hl9 := HL9.out
          have PB := Lib.hid (show (w9.alloc (Obj.cells #[.string nm, .int .i64 e0, .int .i64 e1, .string e2, .slice ea em ec, .int .i64 pp, .int .i64 po] 114)).heap[W8.heap.size]? = some (.cells #[.string nm, .int .i64 e0, .int .i64 e1, .string e2, .slice ea em ec, .int .i64 pp, .int .i64 po] 114 (0, 0)) by rw [← hl9]; exact heap_alloc_new w9 _)
          have HTB9 := Lib.hid ((Below.heap_alloc w9 (Obj.cells #[.string nm, .int .i64 e0, .int .i64 e1, .string e2, .slice ea em ec, .int .i64 pp, .int .i64 po] 114) w6.heap.size (by omega)).trans HTB8.out)
          have HM49 := Lib.hid ((Below.heap_alloc w9 (Obj.cells #[.string nm, .int .i64 e0, .int .i64 e1, .string e2, .slice ea em ec, .int .i64 pp, .int .i64 po] 114) (w.heap.size + 1) (by omega)).trans HM48.out)
          have HTC := Lib.hid (box4t HTB9.out)
          have PS := Lib.hid (fun (W : World) (h : W.heap[W8.heap.size]? = some (.cells #[.string nm, .int .i64 e0, .int .i64 e1, .string e2, .slice ea em ec, .int .i64 pp, .int .i64 po] 114 (0, 0))) => show W.cell? ⟨W8.heap.size, 0, none⟩ = some (.string nm) ∧ W.cell? ⟨W8.heap.size, 1, none⟩ = some (.int .i64 e0) ∧ W.cell? ⟨W8.heap.size, 2, none⟩ = some (.int .i64 e1) ∧ W.cell? ⟨W8.heap.size, 3, none⟩ = some (.string e2) ∧ W.cell? ⟨W8.heap.size, 4, none⟩ = some (.slice ea em ec) ∧ W.cell? ⟨W8.heap.size, 5, none⟩ = some (.int .i64 pp) ∧ W.cell? ⟨W8.heap.size, 6, none⟩ = some (.int .i64 po) from
           ⟨cell_of_row _ _ 0 _ _ _ h, cell_of_row _ _ 1 _ _ _ h, cell_of_row _ _ 2 _ _ _ h, cell_of_row _ _ 3 _ _ _ h, cell_of_row _ _ 4 _ _ _ h, cell_of_row _ _ 5 _ _ _ h, cell_of_row _ _ 6 _ _ _ h⟩)
          obtain ⟨n0, n1, n2, n3⟩ := HTC.out
          clear hw9 r0 r1 r2 r3 r4 r5 r6 hc1
          refine wp_region_held_drew (S := fun w1 => w1.cell? ⟨W8.heap.size, 0, none⟩ = some (.string nm) ∧ w1.cell? ⟨W8.heap.size, 1, none⟩ = some (.int .i64 e0) ∧ w1.cell? ⟨W8.heap.size, 2, none⟩ = some (.int .i64 e1) ∧ w1.cell? ⟨W8.heap.size, 3, none⟩ = some (.string e2) ∧ w1.cell? ⟨W8.heap.size, 4, none⟩ = some (.slice ea em ec) ∧ w1.cell? ⟨W8.heap.size, 5, none⟩ = some (.int .i64 pp) ∧ w1.cell? ⟨W8.heap.size, 6, none⟩ = some (.int .i64 po)) (by kernel_rfl) ?Sqc (fun hH0 => ?Bqc)
          case Sqc => (exact PS.out _ PB.out)
          refine tkH 0 ?_
          try simp only [opD, Act.put, sA, sB, sC]
          refine tkH 1 ?_
          try simp only [opD, Act.put, sA, sB, sC]
          refine tkH 2 ?_
          try simp only [opD, Act.put, sA, sB, sC]
          refine tkH 3 ?_
          try simp only [opD, Act.put, sA, sB, sC]
          refine tkH 7 ?_
          try simp only [opD, Act.put, sA, sB, sC]
          refine tkH 8 ?_
          try simp only [opD, Act.put, sA, sB, sC]
          refine tkH 9 ?_
          try simp only [opD, Act.put, sA, sB, sC]
          refine tkH 10 ?_
          try simp only [opD, Act.put, sA, sB, sC]
          refine wpAnyH_ready (rs := [4]) (by kernel_rfl) (by simp) ?_
          refine rdH (fun K hK => ?_) ?nilqc4
          case nilqc4 => exact AllReadyH.nil
          go_simp
          refine hK.out _ _ ?Sqc4 (fun hH1 => ?restqc4)
          case Sqc4 => (exact PS.out _ PB.out)
          clear hK K
          try simp only [Act.put, sA, sB, sC]
          refine wpAnyH_ready (rs := [5]) (by kernel_rfl) (by simp) ?_
          refine rdH (fun K hK => ?_) ?nilqc5
          case nilqc5 => exact AllReadyH.nil
          go_simp
          refine hK.out _ _ ?Sqc5 (fun hH2 => ?restqc5)
          case Sqc5 => (exact PS.out _ ((Below.heap_alloc _ _ _ (by simp; omega)).trans PB.out))
          clear hK K
          try simp only [Act.put, sA, sB, sC]
          refine wpAnyH_ready (rs := [6]) (by kernel_rfl) (by simp) ?_
          refine rdH (fun K hK => ?_) ?nilqc6
          case nilqc6 => exact AllReadyH.nil
          go_simp
          (refine (pcell_any nm _ 2 2 _).mono ?_)
          rintro e w12 ⟨rfl, hb12⟩
          have hbx := Lib.hid hb12
          have htb12 := (hb12.block w6.heap.size (by simp; omega)).trans ((Below.heap_alloc _ _ _ (by simp; omega)).trans HTB9.out)
          have hm12 := (hb12.block (w.heap.size + 1) (by simp; omega)).trans ((Below.heap_alloc _ _ _ (by simp; omega)).trans HM49.out)
          have hp12 := (hb12.block W8.heap.size (by simp; omega)).trans ((Below.heap_alloc _ _ _ (by simp; omega)).trans PB.out)
          obtain ⟨z0, z1, z2, z3⟩ := box4t htb12
          have zf : ∀ j, w12.frozen? ⟨w6.heap.size, j, none⟩ = false := fun j => by simp [World.frozen?, htb12]
          have y0 := cell_of_row _ _ 0 _ _ _ hm12
          have yf : ∀ j, w12.frozen? ⟨w.heap.size + 1, j, none⟩ = false := fun j => by simp [World.frozen?, hm12]
          have hp13 := Lib.hid (((box_put4 htb12 (.int .i64 4) (.int .i64 0) (.string nm) (.slice (some ⟨W8.heap.size + 1, 0, none⟩) 2 2) rfl).2.2.1 W8.heap.size (by omega)).trans hp12)
          clear hb12
          go_wp2_with fail
          refine hK.out _ _ ?Sqc6 (fun hH3 => ?restqc6)
          case Sqc6 => (exact PS.out _ hp12)
          clear hK K
          try simp only [Act.put, sA, sB, sC]
          refine wpAnyH_ready (rs := [11]) (by kernel_rfl) (by simp) ?_
          refine rdH (fun K hK => ?_) ?nilqc11
          case nilqc11 => exact AllReadyH.nil
          go_simp
          refine hK.out _ _ ?Sqc11 (fun hH4 => ?restqc11)
          case Sqc11 => (exact PS.out _ hp13.out)
          clear hK K
          try simp only [Act.put, sA, sB, sC]
          refine tkH 12 ?_
          try simp only [opD, Act.put, sA, sB, sC]
          refine wpAnyH_ready (rs := [13]) (by kernel_rfl) (by simp) ?_
          refine rdH (fun K hK => ?_) ?nilqc13
          case nilqc13 => exact AllReadyH.nil
          go_simp
          refine hK.out _ _ ?Sqc13 (fun hH5 => ?restqc13)
          case Sqc13 => (exact PS.out _ ((Below.heap_setCell _ _ _ _ (by show W8.heap.size ≠ w.heap.size + 1; omega)).trans hp13.out))
          clear hK K
          try simp only [Act.put, sA, sB, sC]
          refine wpAnyH_done (by kernel_rfl) ?_ _
          have hbb : Below (W8.setCell ⟨w.heap.size + 1 + 1 + 1 + 1, 0, none⟩ (.slice (some ⟨gb, 0, none⟩) S.length cc)).heap.size (W8.setCell ⟨w.heap.size + 1 + 1 + 1 + 1, 0, none⟩ (.slice (some ⟨gb, 0, none⟩) S.length cc)) w12 := by
           rw [HN.out, HW9.out]
           exact ((((Below.refl w9.heap.size w9).alloc (Nat.le_refl _) _).drew).alloc (by simp) _).trans (hbx.out.mono (by simp; omega))
          have tpm : ∀ {t : T} {v : Value}, TP W8 (fun q => w.heap.size + 5 ≤ q ∧ q ≠ w6.heap.size) t v → TP w12 (fun q => w.heap.size + 5 ≤ q ∧ q ≠ w6.heap.size) t v := fun ht => ht.keep fun b cs f hS hb => ⟨(hbb.block b (by have := heap_lt hb; simp; omega)).trans ((Below.heap_setCell W8 _ _ b (heap_ne hb M8.out.cb.hs (by decide))).trans hb), hS⟩
          have MP0 := M8.out.popped (W1 := w12) hB hbb (t' := twoT nm lt t) (b0 := 4) (b1 := 0) (b2 := nm) (b3 := some ⟨W8.heap.size + 1, 0, none⟩) (b4 := 2) (b5 := 2)
           ⟨_, _, rfl, Nat.le_refl _, (fun h => by cases h), fun _ => ⟨W8.heap.size + 1, _, _, rfl, .inr (by omega), (hbx.out.block _ (by simp; omega)).trans (heap_at _ _ (by simp; omega)), fun i hi => by
            rcases (by omega : i = 0 ∨ i = 1) with rfl | rfl
            ·exact ⟨_, _, _, _, rfl, rfl, rfl, rfl, (tpm (M8.out.st _ List.mem_cons_self)).more fun b hb => .inl hb⟩
            ·exact ⟨_, _, _, _, rfl, rfl, rfl, rfl, (tpm M8.out.ht).more fun b hb => .inl hb⟩⟩⟩
          have MP := Lib.hid MP0
          clear MP0 hbb tpm hbx htb12 hm12 z0 z1 z2 z3 y0
          go_wp2_with fail
          go_roundw
          case rel => exact ⟨j, S, twoT nm lt t, 4, 0, nm, some ⟨W8.heap.size + 1, 0, none⟩, 2, 2, po, pp, ns', some ⟨gb, 0, none⟩, cc, rfl, MP.out, HKN⟩
          case measure =>
           rw [MP.out.rd.left_eq, M.out.rd.left_eq, MP.out.len_eq, M.out.len_eq]
           simp only [List.length_cons]
           omega
      | false =>
       have HNI := Lib.hid (show (nxT c.tk c.s.size j).k ≠ 1 ∧ isM c.tk c.s.size j ⟨#[44]⟩ = false from ⟨by rw [HXT.out]; simpa using k1, by
        unfold isM
        rw [HXT.out, show (⟨#[44]⟩ : ByteArray).toList = [44] by rw [ByteArray.toList_eq], ktx, Bool.and_false]⟩)
       have M8 := M7
       go_upto_region 13 with fail
       generalize w7.alloc (Obj.cells #[.int .i64 x.k, .string x.t, .int .i64 (x.a : Int), .int .i64 (x.b : Int)] 83) = W8 at *
       have HNO := Lib.hid (show ∀ f, infixC c.tk c.s.size (termP c.tk c.s.size (d + 1 - 1 - S.length)) ms f t prio j ns' = .ok (t, j, ns') from fun f => infix_no HNI.out)
       have hKK := hK.out
       cases S with
       | nil =>
        have HR := Lib.hid (show RS = .ok (t, j, ns') by
         obtain ⟨f, _, h⟩ := hKK.eq
         rw [h]
         exact HNO.out f)
        have HG := Lib.hid (And.intro hKK.gd hKK.nod)
        have hc1 := M8.out.cb.cells.2.1
        obtain ⟨y0, y1, y2, y3⟩ := box4t M8.out.tbox
        obtain ⟨x0, x1, x2, x3⟩ := box4t M8.out.res
        have xf : ∀ j, W8.frozen? ⟨w.heap.size + 1 + 1 + 1, j, none⟩ = false := fun j => by simp [World.frozen?, M8.out.res]
        have hlj := M8.out.fr.size
        clear hKK hK c0 c1 c2
        go_wp2_with fail
        obtain ⟨p0, p1, p2, p3⟩ := box4t (box_put4 M8.out.res (.int .i64 a0) (.int .i64 a1) (.string a2) (.slice a3 a4 a5) rfl).1
        refine bodyPost_ret (v := .agg #[.int .i64 a0, .int .i64 a1, .string a2, .slice a3 a4 a5]) (by simp [results, go_sem, p0, p1, p2, p3]) rfl ?_
        exact ret_boxp M8.out.rd M8.out.fr hB M8.out.res (by omega) (M8.out.ht.more fun b hb => ⟨by omega, by omega⟩) (by have := HG.out.2; simp at this; omega) HG.out.1 (by have := HG.out.2; simpa using this) HR.out
       | cons ee S =>
        obtain ⟨nm, lt, e0, e1, e2, ea, em, ec, pp, po, ef⟩ := ee
        obtain ⟨n, hn⟩ : ∃ n, S.length = n := ⟨_, rfl⟩
        have HN := Lib.hid hn
        have HKN := Lib.hid (show TmK c (d + 1) i j S (twoT nm lt t) po pp ns' RS from by
         obtain ⟨q1, q2, q3⟩ := hKK.gs _ List.mem_cons_self
         refine ⟨two_good _ q2 q1 hKK.gd, fun e' he' => hKK.gs e' (List.mem_cons_of_mem _ he'), ?_, ?_, ef, q3, ?_⟩
         ·have h9 := hKK.nod
          have h8 : (twoT nm lt t).nodes = 1 + lt.nodes + t.nodes := two_nodes _ _ _
          rw [h8]
          simp only [List.map_cons, List.sum_cons] at h9
          omega
         ·have := hKK.len
          simp only [List.length_cons] at this
          omega
         ·obtain ⟨f, _, h⟩ := hKK.eq
          rw [h, HNO.out f]
          rfl)
        have hlen : n ≤ 64 := by have := hKK.len; simp only [List.length_cons] at this; omega
        have hrow := M8.out.row
        obtain ⟨A', cc', erow, hcc', hA', _, hxr⟩ := own_open hrow
        injection erow with er1 _ er3
        subst er1 er3
        obtain ⟨gb, cur, hgb, hgb0, hhb, hcur⟩ := hxr (by simp)
        have hcell : ∀ k, k < 7 → W8.cell? ⟨gb, n * 7 + k, none⟩ = (PE.cells ⟨nm, lt, e0, e1, e2, ea, em, ec, pp, po, ef⟩)[k]? := fun k hk => by
         rw [cell_of_row _ gb (n * 7 + k) _ _ _ hhb, hcur (n * 7 + k) (by simp only [List.length_cons]; omega)]
         show (stCells S ++ PE.cells ⟨nm, lt, e0, e1, e2, ea, em, ec, pp, po, ef⟩)[n * 7 + k]? = _
         rw [List.getElem?_append_right (by rw [st_len, hn]; omega), st_len, hn]
         congr 1
         omega
        have r0 : W8.cell? ⟨gb, n * 7, none⟩ = some (.string nm) := hcell 0 (by omega)
        have r1 : W8.cell? ⟨gb, n * 7 + 1, none⟩ = some (.int .i64 e0) := hcell 1 (by omega)
        have r2 : W8.cell? ⟨gb, n * 7 + 2, none⟩ = some (.int .i64 e1) := hcell 2 (by omega)
        have r3 : W8.cell? ⟨gb, n * 7 + 3, none⟩ = some (.string e2) := hcell 3 (by omega)
        have r4 : W8.cell? ⟨gb, n * 7 + 4, none⟩ = some (.slice ea em ec) := hcell 4 (by omega)
        have r5 : W8.cell? ⟨gb, n * 7 + 5, none⟩ = some (.int .i64 pp) := hcell 5 (by omega)
        have r6 : W8.cell? ⟨gb, n * 7 + 6, none⟩ = some (.int .i64 po) := hcell 6 (by omega)
        subst hgb
        have hsn : ((PE.mk nm lt e0 e1 e2 ea em ec pp po ef :: S).length) = n + 1 := by rw [List.length_cons, hn]
        have hc1 := M8.out.cb.cells.2.1
        rw [hsn] at hc1
        have hccn : n + 1 ≤ cc := by rw [hsn] at hcc'; exact hcc'
        have HC1 := Lib.hid hc1
        have hlw := M8.out.cb.lt
        obtain ⟨L0, L1, L2, L3⟩ := hlw
        have L1' := L1
        have L3' := L3
        try simp only [World.size_alloc] at L1' L3'
        have ltb := heap_lt M8.out.tbox
        have htbl := M8.out.htb
        have sf : ∀ j, W8.frozen? ⟨w.heap.size + 1 + 1 + 1 + 1, j, none⟩ = false := fun j => by simp [World.frozen?, M8.out.cb.hs]
        have hlgb := heap_lt hhb
        clear hKK hcell hhb hcur hxr hrow hA' hcc' hsn HC1
        have HL9 := Lib.hid (show (W8.setCell ⟨w.heap.size + 1 + 1 + 1 + 1, 0, none⟩ (.slice (some ⟨gb, 0, none⟩) n cc)).heap.size = W8.heap.size by simp)
        have HTB8 := Lib.hid ((Below.heap_setCell W8 ⟨w.heap.size + 1 + 1 + 1 + 1, 0, none⟩ (.slice (some ⟨gb, 0, none⟩) n cc) w6.heap.size (by show w6.heap.size ≠ w.heap.size + 1 + 1 + 1 + 1; omega)).trans M8.out.tbox)
        have HM48 := Lib.hid ((Below.heap_setCell W8 ⟨w.heap.size + 1 + 1 + 1 + 1, 0, none⟩ (.slice (some ⟨gb, 0, none⟩) n cc) (w.heap.size + 1) (by show w.heap.size + 1 ≠ w.heap.size + 1 + 1 + 1 + 1; omega)).trans M8.out.cb.hm)
        clear c0 c1 c2
        go_wp2_with fail
        obtain ⟨w9, hw9⟩ : ∃ w9, W8.setCell ⟨w.heap.size + 1 + 1 + 1 + 1, 0, none⟩ (.slice (some ⟨gb, 0, none⟩) n cc) = w9 := ⟨_, rfl⟩
        rw [hw9] at HTB8 HM48 HL9 ⊢
        have HW9 := Lib.hid hw9
        have hl9 := HL9.out
        have PB := Lib.hid (show (w9.alloc (Obj.cells #[.string nm, .int .i64 e0, .int .i64 e1, .string e2, .slice ea em ec, .int .i64 pp, .int .i64 po] 114)).heap[W8.heap.size]? = some (.cells #[.string nm, .int .i64 e0, .int .i64 e1, .string e2, .slice ea em ec, .int .i64 pp, .int .i64 po] 114 (0, 0)) by rw [← hl9]; exact heap_alloc_new w9 _)
        have HTB9 := Lib.hid ((Below.heap_alloc w9 (Obj.cells #[.string nm, .int .i64 e0, .int .i64 e1, .string e2, .slice ea em ec, .int .i64 pp, .int .i64 po] 114) w6.heap.size (by omega)).trans HTB8.out)
        have HM49 := Lib.hid ((Below.heap_alloc w9 (Obj.cells #[.string nm, .int .i64 e0, .int .i64 e1, .string e2, .slice ea em ec, .int .i64 pp, .int .i64 po] 114) (w.heap.size + 1) (by omega)).trans HM48.out)
        have HTC := Lib.hid (box4t HTB9.out)
        have PS := Lib.hid (fun (W : World) (h : W.heap[W8.heap.size]? = some (.cells #[.string nm, .int .i64 e0, .int .i64 e1, .string e2, .slice ea em ec, .int .i64 pp, .int .i64 po] 114 (0, 0))) => show W.cell? ⟨W8.heap.size, 0, none⟩ = some (.string nm) ∧ W.cell? ⟨W8.heap.size, 1, none⟩ = some (.int .i64 e0) ∧ W.cell? ⟨W8.heap.size, 2, none⟩ = some (.int .i64 e1) ∧ W.cell? ⟨W8.heap.size, 3, none⟩ = some (.string e2) ∧ W.cell? ⟨W8.heap.size, 4, none⟩ = some (.slice ea em ec) ∧ W.cell? ⟨W8.heap.size, 5, none⟩ = some (.int .i64 pp) ∧ W.cell? ⟨W8.heap.size, 6, none⟩ = some (.int .i64 po) from
         ⟨cell_of_row _ _ 0 _ _ _ h, cell_of_row _ _ 1 _ _ _ h, cell_of_row _ _ 2 _ _ _ h, cell_of_row _ _ 3 _ _ _ h, cell_of_row _ _ 4 _ _ _ h, cell_of_row _ _ 5 _ _ _ h, cell_of_row _ _ 6 _ _ _ h⟩)
        obtain ⟨n0, n1, n2, n3⟩ := HTC.out
        clear hw9 r0 r1 r2 r3 r4 r5 r6 hc1
        refine wp_region_held_drew (S := fun w1 => w1.cell? ⟨W8.heap.size, 0, none⟩ = some (.string nm) ∧ w1.cell? ⟨W8.heap.size, 1, none⟩ = some (.int .i64 e0) ∧ w1.cell? ⟨W8.heap.size, 2, none⟩ = some (.int .i64 e1) ∧ w1.cell? ⟨W8.heap.size, 3, none⟩ = some (.string e2) ∧ w1.cell? ⟨W8.heap.size, 4, none⟩ = some (.slice ea em ec) ∧ w1.cell? ⟨W8.heap.size, 5, none⟩ = some (.int .i64 pp) ∧ w1.cell? ⟨W8.heap.size, 6, none⟩ = some (.int .i64 po)) (by kernel_rfl) ?Sr (fun hH0 => ?Br)
        case Sr => (exact PS.out _ PB.out)
        refine tkH 0 ?_
        try simp only [opD, Act.put, sA, sB, sC]
        refine tkH 1 ?_
        try simp only [opD, Act.put, sA, sB, sC]
        refine tkH 2 ?_
        try simp only [opD, Act.put, sA, sB, sC]
        refine tkH 3 ?_
        try simp only [opD, Act.put, sA, sB, sC]
        refine tkH 7 ?_
        try simp only [opD, Act.put, sA, sB, sC]
        refine tkH 8 ?_
        try simp only [opD, Act.put, sA, sB, sC]
        refine tkH 9 ?_
        try simp only [opD, Act.put, sA, sB, sC]
        refine tkH 10 ?_
        try simp only [opD, Act.put, sA, sB, sC]
        refine wpAnyH_ready (rs := [4]) (by kernel_rfl) (by simp) ?_
        refine rdH (fun K hK => ?_) ?nilr4
        case nilr4 => exact AllReadyH.nil
        go_simp
        refine hK.out _ _ ?Sr4 (fun hH1 => ?restr4)
        case Sr4 => (exact PS.out _ PB.out)
        clear hK K
        try simp only [Act.put, sA, sB, sC]
        refine wpAnyH_ready (rs := [5]) (by kernel_rfl) (by simp) ?_
        refine rdH (fun K hK => ?_) ?nilr5
        case nilr5 => exact AllReadyH.nil
        go_simp
        refine hK.out _ _ ?Sr5 (fun hH2 => ?restr5)
        case Sr5 => (exact PS.out _ ((Below.heap_alloc _ _ _ (by simp; omega)).trans PB.out))
        clear hK K
        try simp only [Act.put, sA, sB, sC]
        refine wpAnyH_ready (rs := [6]) (by kernel_rfl) (by simp) ?_
        refine rdH (fun K hK => ?_) ?nilr6
        case nilr6 => exact AllReadyH.nil
        go_simp
        (refine (pcell_any nm _ 2 2 _).mono ?_)
        rintro e w12 ⟨rfl, hb12⟩
        have hbx := Lib.hid hb12
        have htb12 := (hb12.block w6.heap.size (by simp; omega)).trans ((Below.heap_alloc _ _ _ (by simp; omega)).trans HTB9.out)
        have hm12 := (hb12.block (w.heap.size + 1) (by simp; omega)).trans ((Below.heap_alloc _ _ _ (by simp; omega)).trans HM49.out)
        have hp12 := (hb12.block W8.heap.size (by simp; omega)).trans ((Below.heap_alloc _ _ _ (by simp; omega)).trans PB.out)
        obtain ⟨z0, z1, z2, z3⟩ := box4t htb12
        have zf : ∀ j, w12.frozen? ⟨w6.heap.size, j, none⟩ = false := fun j => by simp [World.frozen?, htb12]
        have y0 := cell_of_row _ _ 0 _ _ _ hm12
        have yf : ∀ j, w12.frozen? ⟨w.heap.size + 1, j, none⟩ = false := fun j => by simp [World.frozen?, hm12]
        have hp13 := Lib.hid (((box_put4 htb12 (.int .i64 4) (.int .i64 0) (.string nm) (.slice (some ⟨W8.heap.size + 1, 0, none⟩) 2 2) rfl).2.2.1 W8.heap.size (by omega)).trans hp12)
        clear hb12
        go_wp2_with fail
        refine hK.out _ _ ?Sr6 (fun hH3 => ?restr6)
        case Sr6 => (exact PS.out _ hp12)
        clear hK K
        try simp only [Act.put, sA, sB, sC]
        refine wpAnyH_ready (rs := [11]) (by kernel_rfl) (by simp) ?_
        refine rdH (fun K hK => ?_) ?nilr11
        case nilr11 => exact AllReadyH.nil
        go_simp
        refine hK.out _ _ ?Sr11 (fun hH4 => ?restr11)
        case Sr11 => (exact PS.out _ hp13.out)
        clear hK K
        try simp only [Act.put, sA, sB, sC]
        refine tkH 12 ?_
        try simp only [opD, Act.put, sA, sB, sC]
        refine wpAnyH_ready (rs := [13]) (by kernel_rfl) (by simp) ?_
        refine rdH (fun K hK => ?_) ?nilr13
        case nilr13 => exact AllReadyH.nil
        go_simp
        refine hK.out _ _ ?Sr13 (fun hH5 => ?restr13)
        case Sr13 => (exact PS.out _ ((Below.heap_setCell _ _ _ _ (by show W8.heap.size ≠ w.heap.size + 1; omega)).trans hp13.out))
        clear hK K
        try simp only [Act.put, sA, sB, sC]
        refine wpAnyH_done (by kernel_rfl) ?_ _
        have hbb : Below (W8.setCell ⟨w.heap.size + 1 + 1 + 1 + 1, 0, none⟩ (.slice (some ⟨gb, 0, none⟩) S.length cc)).heap.size (W8.setCell ⟨w.heap.size + 1 + 1 + 1 + 1, 0, none⟩ (.slice (some ⟨gb, 0, none⟩) S.length cc)) w12 := by
         rw [HN.out, HW9.out]
         exact ((((Below.refl w9.heap.size w9).alloc (Nat.le_refl _) _).drew).alloc (by simp) _).trans (hbx.out.mono (by simp; omega))
        have tpm : ∀ {t : T} {v : Value}, TP W8 (fun q => w.heap.size + 5 ≤ q ∧ q ≠ w6.heap.size) t v → TP w12 (fun q => w.heap.size + 5 ≤ q ∧ q ≠ w6.heap.size) t v := fun ht => ht.keep fun b cs f hS hb => ⟨(hbb.block b (by have := heap_lt hb; simp; omega)).trans ((Below.heap_setCell W8 _ _ b (heap_ne hb M8.out.cb.hs (by decide))).trans hb), hS⟩
        have MP0 := M8.out.popped (W1 := w12) hB hbb (t' := twoT nm lt t) (b0 := 4) (b1 := 0) (b2 := nm) (b3 := some ⟨W8.heap.size + 1, 0, none⟩) (b4 := 2) (b5 := 2)
         ⟨_, _, rfl, Nat.le_refl _, (fun h => by cases h), fun _ => ⟨W8.heap.size + 1, _, _, rfl, .inr (by omega), (hbx.out.block _ (by simp; omega)).trans (heap_at _ _ (by simp; omega)), fun i hi => by
          rcases (by omega : i = 0 ∨ i = 1) with rfl | rfl
          ·exact ⟨_, _, _, _, rfl, rfl, rfl, rfl, (tpm (M8.out.st _ List.mem_cons_self)).more fun b hb => .inl hb⟩
          ·exact ⟨_, _, _, _, rfl, rfl, rfl, rfl, (tpm M8.out.ht).more fun b hb => .inl hb⟩⟩⟩
        have MP := Lib.hid MP0
        clear MP0 hbb tpm hbx htb12 hm12 z0 z1 z2 z3 y0
        go_wp2_with fail
        go_roundw
        case rel => exact ⟨j, S, twoT nm lt t, 4, 0, nm, some ⟨W8.heap.size + 1, 0, none⟩, 2, 2, po, pp, ns', some ⟨gb, 0, none⟩, cc, rfl, MP.out, HKN⟩
        case measure =>
         rw [MP.out.rd.left_eq, M.out.rd.left_eq, MP.out.len_eq, M.out.len_eq]
         simp only [List.length_cons]
         omega
     | false =>
      have HNI := Lib.hid (show (nxT c.tk c.s.size j).k ≠ 1 ∧ isM c.tk c.s.size j ⟨#[44]⟩ = false from ⟨by rw [HXT.out]; simpa using k1, by
       unfold isM
       rw [HXT.out, k5]; rfl⟩)
      have M8 := M7
      go_upto_region 13 with fail
      generalize w7.alloc (Obj.cells #[.int .i64 x.k, .string x.t, .int .i64 (x.a : Int), .int .i64 (x.b : Int)] 83) = W8 at *
      have HNO := Lib.hid (show ∀ f, infixC c.tk c.s.size (termP c.tk c.s.size (d + 1 - 1 - S.length)) ms f t prio j ns' = .ok (t, j, ns') from fun f => infix_no HNI.out)
      have hKK := hK.out
      cases S with
      | nil =>
       have HR := Lib.hid (show RS = .ok (t, j, ns') by
        obtain ⟨f, _, h⟩ := hKK.eq
        rw [h]
        exact HNO.out f)
       have HG := Lib.hid (And.intro hKK.gd hKK.nod)
       have hc1 := M8.out.cb.cells.2.1
       obtain ⟨y0, y1, y2, y3⟩ := box4t M8.out.tbox
       obtain ⟨x0, x1, x2, x3⟩ := box4t M8.out.res
       have xf : ∀ j, W8.frozen? ⟨w.heap.size + 1 + 1 + 1, j, none⟩ = false := fun j => by simp [World.frozen?, M8.out.res]
       have hlj := M8.out.fr.size
       clear hKK hK c0 c1 c2
       go_wp2_with fail
       obtain ⟨p0, p1, p2, p3⟩ := box4t (box_put4 M8.out.res (.int .i64 a0) (.int .i64 a1) (.string a2) (.slice a3 a4 a5) rfl).1
       refine bodyPost_ret (v := .agg #[.int .i64 a0, .int .i64 a1, .string a2, .slice a3 a4 a5]) (by simp [results, go_sem, p0, p1, p2, p3]) rfl ?_
       exact ret_boxp M8.out.rd M8.out.fr hB M8.out.res (by omega) (M8.out.ht.more fun b hb => ⟨by omega, by omega⟩) (by have := HG.out.2; simp at this; omega) HG.out.1 (by have := HG.out.2; simpa using this) HR.out
      | cons ee S =>
       obtain ⟨nm, lt, e0, e1, e2, ea, em, ec, pp, po, ef⟩ := ee
       obtain ⟨n, hn⟩ : ∃ n, S.length = n := ⟨_, rfl⟩
       have HN := Lib.hid hn
       have HKN := Lib.hid (show TmK c (d + 1) i j S (twoT nm lt t) po pp ns' RS from by
        obtain ⟨q1, q2, q3⟩ := hKK.gs _ List.mem_cons_self
        refine ⟨two_good _ q2 q1 hKK.gd, fun e' he' => hKK.gs e' (List.mem_cons_of_mem _ he'), ?_, ?_, ef, q3, ?_⟩
        ·have h9 := hKK.nod
         have h8 : (twoT nm lt t).nodes = 1 + lt.nodes + t.nodes := two_nodes _ _ _
         rw [h8]
         simp only [List.map_cons, List.sum_cons] at h9
         omega
        ·have := hKK.len
         simp only [List.length_cons] at this
         omega
        ·obtain ⟨f, _, h⟩ := hKK.eq
         rw [h, HNO.out f]
         rfl)
       have hlen : n ≤ 64 := by have := hKK.len; simp only [List.length_cons] at this; omega
       have hrow := M8.out.row
       obtain ⟨A', cc', erow, hcc', hA', _, hxr⟩ := own_open hrow
       injection erow with er1 _ er3
       subst er1 er3
       obtain ⟨gb, cur, hgb, hgb0, hhb, hcur⟩ := hxr (by simp)
       have hcell : ∀ k, k < 7 → W8.cell? ⟨gb, n * 7 + k, none⟩ = (PE.cells ⟨nm, lt, e0, e1, e2, ea, em, ec, pp, po, ef⟩)[k]? := fun k hk => by
        rw [cell_of_row _ gb (n * 7 + k) _ _ _ hhb, hcur (n * 7 + k) (by simp only [List.length_cons]; omega)]
        show (stCells S ++ PE.cells ⟨nm, lt, e0, e1, e2, ea, em, ec, pp, po, ef⟩)[n * 7 + k]? = _
        rw [List.getElem?_append_right (by rw [st_len, hn]; omega), st_len, hn]
        congr 1
        omega
       have r0 : W8.cell? ⟨gb, n * 7, none⟩ = some (.string nm) := hcell 0 (by omega)
       have r1 : W8.cell? ⟨gb, n * 7 + 1, none⟩ = some (.int .i64 e0) := hcell 1 (by omega)
       have r2 : W8.cell? ⟨gb, n * 7 + 2, none⟩ = some (.int .i64 e1) := hcell 2 (by omega)
       have r3 : W8.cell? ⟨gb, n * 7 + 3, none⟩ = some (.string e2) := hcell 3 (by omega)
       have r4 : W8.cell? ⟨gb, n * 7 + 4, none⟩ = some (.slice ea em ec) := hcell 4 (by omega)
       have r5 : W8.cell? ⟨gb, n * 7 + 5, none⟩ = some (.int .i64 pp) := hcell 5 (by omega)
       have r6 : W8.cell? ⟨gb, n * 7 + 6, none⟩ = some (.int .i64 po) := hcell 6 (by omega)
       subst hgb
       have hsn : ((PE.mk nm lt e0 e1 e2 ea em ec pp po ef :: S).length) = n + 1 := by rw [List.length_cons, hn]
       have hc1 := M8.out.cb.cells.2.1
       rw [hsn] at hc1
       have hccn : n + 1 ≤ cc := by rw [hsn] at hcc'; exact hcc'
       have HC1 := Lib.hid hc1
       have hlw := M8.out.cb.lt
       obtain ⟨L0, L1, L2, L3⟩ := hlw
       have L1' := L1
       have L3' := L3
       try simp only [World.size_alloc] at L1' L3'
       have ltb := heap_lt M8.out.tbox
       have htbl := M8.out.htb
       have sf : ∀ j, W8.frozen? ⟨w.heap.size + 1 + 1 + 1 + 1, j, none⟩ = false := fun j => by simp [World.frozen?, M8.out.cb.hs]
       have hlgb := heap_lt hhb
       clear hKK hcell hhb hcur hxr hrow hA' hcc' hsn HC1
       have HL9 := Lib.hid (show (W8.setCell ⟨w.heap.size + 1 + 1 + 1 + 1, 0, none⟩ (.slice (some ⟨gb, 0, none⟩) n cc)).heap.size = W8.heap.size by simp)
       have HTB8 := Lib.hid ((Below.heap_setCell W8 ⟨w.heap.size + 1 + 1 + 1 + 1, 0, none⟩ (.slice (some ⟨gb, 0, none⟩) n cc) w6.heap.size (by show w6.heap.size ≠ w.heap.size + 1 + 1 + 1 + 1; omega)).trans M8.out.tbox)
       have HM48 := Lib.hid ((Below.heap_setCell W8 ⟨w.heap.size + 1 + 1 + 1 + 1, 0, none⟩ (.slice (some ⟨gb, 0, none⟩) n cc) (w.heap.size + 1) (by show w.heap.size + 1 ≠ w.heap.size + 1 + 1 + 1 + 1; omega)).trans M8.out.cb.hm)
       clear c0 c1 c2
       go_wp2_with fail
       obtain ⟨w9, hw9⟩ : ∃ w9, W8.setCell ⟨w.heap.size + 1 + 1 + 1 + 1, 0, none⟩ (.slice (some ⟨gb, 0, none⟩) n cc) = w9 := ⟨_, rfl⟩
       rw [hw9] at HTB8 HM48 HL9 ⊢
       have HW9 := Lib.hid hw9
       have hl9 := HL9.out
       have PB := Lib.hid (show (w9.alloc (Obj.cells #[.string nm, .int .i64 e0, .int .i64 e1, .string e2, .slice ea em ec, .int .i64 pp, .int .i64 po] 114)).heap[W8.heap.size]? = some (.cells #[.string nm, .int .i64 e0, .int .i64 e1, .string e2, .slice ea em ec, .int .i64 pp, .int .i64 po] 114 (0, 0)) by rw [← hl9]; exact heap_alloc_new w9 _)
       have HTB9 := Lib.hid ((Below.heap_alloc w9 (Obj.cells #[.string nm, .int .i64 e0, .int .i64 e1, .string e2, .slice ea em ec, .int .i64 pp, .int .i64 po] 114) w6.heap.size (by omega)).trans HTB8.out)
       have HM49 := Lib.hid ((Below.heap_alloc w9 (Obj.cells #[.string nm, .int .i64 e0, .int .i64 e1, .string e2, .slice ea em ec, .int .i64 pp, .int .i64 po] 114) (w.heap.size + 1) (by omega)).trans HM48.out)
       have HTC := Lib.hid (box4t HTB9.out)
       have PS := Lib.hid (fun (W : World) (h : W.heap[W8.heap.size]? = some (.cells #[.string nm, .int .i64 e0, .int .i64 e1, .string e2, .slice ea em ec, .int .i64 pp, .int .i64 po] 114 (0, 0))) => show W.cell? ⟨W8.heap.size, 0, none⟩ = some (.string nm) ∧ W.cell? ⟨W8.heap.size, 1, none⟩ = some (.int .i64 e0) ∧ W.cell? ⟨W8.heap.size, 2, none⟩ = some (.int .i64 e1) ∧ W.cell? ⟨W8.heap.size, 3, none⟩ = some (.string e2) ∧ W.cell? ⟨W8.heap.size, 4, none⟩ = some (.slice ea em ec) ∧ W.cell? ⟨W8.heap.size, 5, none⟩ = some (.int .i64 pp) ∧ W.cell? ⟨W8.heap.size, 6, none⟩ = some (.int .i64 po) from
        ⟨cell_of_row _ _ 0 _ _ _ h, cell_of_row _ _ 1 _ _ _ h, cell_of_row _ _ 2 _ _ _ h, cell_of_row _ _ 3 _ _ _ h, cell_of_row _ _ 4 _ _ _ h, cell_of_row _ _ 5 _ _ _ h, cell_of_row _ _ 6 _ _ _ h⟩)
       obtain ⟨n0, n1, n2, n3⟩ := HTC.out
       clear hw9 r0 r1 r2 r3 r4 r5 r6 hc1
       refine wp_region_held_drew (S := fun w1 => w1.cell? ⟨W8.heap.size, 0, none⟩ = some (.string nm) ∧ w1.cell? ⟨W8.heap.size, 1, none⟩ = some (.int .i64 e0) ∧ w1.cell? ⟨W8.heap.size, 2, none⟩ = some (.int .i64 e1) ∧ w1.cell? ⟨W8.heap.size, 3, none⟩ = some (.string e2) ∧ w1.cell? ⟨W8.heap.size, 4, none⟩ = some (.slice ea em ec) ∧ w1.cell? ⟨W8.heap.size, 5, none⟩ = some (.int .i64 pp) ∧ w1.cell? ⟨W8.heap.size, 6, none⟩ = some (.int .i64 po)) (by kernel_rfl) ?Ss (fun hH0 => ?Bs)
       case Ss => (exact PS.out _ PB.out)
       refine tkH 0 ?_
       try simp only [opD, Act.put, sA, sB, sC]
       refine tkH 1 ?_
       try simp only [opD, Act.put, sA, sB, sC]
       refine tkH 2 ?_
       try simp only [opD, Act.put, sA, sB, sC]
       refine tkH 3 ?_
       try simp only [opD, Act.put, sA, sB, sC]
       refine tkH 7 ?_
       try simp only [opD, Act.put, sA, sB, sC]
       refine tkH 8 ?_
       try simp only [opD, Act.put, sA, sB, sC]
       refine tkH 9 ?_
       try simp only [opD, Act.put, sA, sB, sC]
       refine tkH 10 ?_
       try simp only [opD, Act.put, sA, sB, sC]
       refine wpAnyH_ready (rs := [4]) (by kernel_rfl) (by simp) ?_
       refine rdH (fun K hK => ?_) ?nils4
       case nils4 => exact AllReadyH.nil
       go_simp
       refine hK.out _ _ ?Ss4 (fun hH1 => ?rests4)
       case Ss4 => (exact PS.out _ PB.out)
       clear hK K
       try simp only [Act.put, sA, sB, sC]
       refine wpAnyH_ready (rs := [5]) (by kernel_rfl) (by simp) ?_
       refine rdH (fun K hK => ?_) ?nils5
       case nils5 => exact AllReadyH.nil
       go_simp
       refine hK.out _ _ ?Ss5 (fun hH2 => ?rests5)
       case Ss5 => (exact PS.out _ ((Below.heap_alloc _ _ _ (by simp; omega)).trans PB.out))
       clear hK K
       try simp only [Act.put, sA, sB, sC]
       refine wpAnyH_ready (rs := [6]) (by kernel_rfl) (by simp) ?_
       refine rdH (fun K hK => ?_) ?nils6
       case nils6 => exact AllReadyH.nil
       go_simp
       (refine (pcell_any nm _ 2 2 _).mono ?_)
       rintro e w12 ⟨rfl, hb12⟩
       have hbx := Lib.hid hb12
       have htb12 := (hb12.block w6.heap.size (by simp; omega)).trans ((Below.heap_alloc _ _ _ (by simp; omega)).trans HTB9.out)
       have hm12 := (hb12.block (w.heap.size + 1) (by simp; omega)).trans ((Below.heap_alloc _ _ _ (by simp; omega)).trans HM49.out)
       have hp12 := (hb12.block W8.heap.size (by simp; omega)).trans ((Below.heap_alloc _ _ _ (by simp; omega)).trans PB.out)
       obtain ⟨z0, z1, z2, z3⟩ := box4t htb12
       have zf : ∀ j, w12.frozen? ⟨w6.heap.size, j, none⟩ = false := fun j => by simp [World.frozen?, htb12]
       have y0 := cell_of_row _ _ 0 _ _ _ hm12
       have yf : ∀ j, w12.frozen? ⟨w.heap.size + 1, j, none⟩ = false := fun j => by simp [World.frozen?, hm12]
       have hp13 := Lib.hid (((box_put4 htb12 (.int .i64 4) (.int .i64 0) (.string nm) (.slice (some ⟨W8.heap.size + 1, 0, none⟩) 2 2) rfl).2.2.1 W8.heap.size (by omega)).trans hp12)
       clear hb12
       go_wp2_with fail
       refine hK.out _ _ ?Ss6 (fun hH3 => ?rests6)
       case Ss6 => (exact PS.out _ hp12)
       clear hK K
       try simp only [Act.put, sA, sB, sC]
       refine wpAnyH_ready (rs := [11]) (by kernel_rfl) (by simp) ?_
       refine rdH (fun K hK => ?_) ?nils11
       case nils11 => exact AllReadyH.nil
       go_simp
       refine hK.out _ _ ?Ss11 (fun hH4 => ?rests11)
       case Ss11 => (exact PS.out _ hp13.out)
       clear hK K
       try simp only [Act.put, sA, sB, sC]
       refine tkH 12 ?_
       try simp only [opD, Act.put, sA, sB, sC]
       refine wpAnyH_ready (rs := [13]) (by kernel_rfl) (by simp) ?_
       refine rdH (fun K hK => ?_) ?nils13
       case nils13 => exact AllReadyH.nil
       go_simp
       refine hK.out _ _ ?Ss13 (fun hH5 => ?rests13)
       case Ss13 => (exact PS.out _ ((Below.heap_setCell _ _ _ _ (by show W8.heap.size ≠ w.heap.size + 1; omega)).trans hp13.out))
       clear hK K
       try simp only [Act.put, sA, sB, sC]
       refine wpAnyH_done (by kernel_rfl) ?_ _
       have hbb : Below (W8.setCell ⟨w.heap.size + 1 + 1 + 1 + 1, 0, none⟩ (.slice (some ⟨gb, 0, none⟩) S.length cc)).heap.size (W8.setCell ⟨w.heap.size + 1 + 1 + 1 + 1, 0, none⟩ (.slice (some ⟨gb, 0, none⟩) S.length cc)) w12 := by
        rw [HN.out, HW9.out]
        exact ((((Below.refl w9.heap.size w9).alloc (Nat.le_refl _) _).drew).alloc (by simp) _).trans (hbx.out.mono (by simp; omega))
       have tpm : ∀ {t : T} {v : Value}, TP W8 (fun q => w.heap.size + 5 ≤ q ∧ q ≠ w6.heap.size) t v → TP w12 (fun q => w.heap.size + 5 ≤ q ∧ q ≠ w6.heap.size) t v := fun ht => ht.keep fun b cs f hS hb => ⟨(hbb.block b (by have := heap_lt hb; simp; omega)).trans ((Below.heap_setCell W8 _ _ b (heap_ne hb M8.out.cb.hs (by decide))).trans hb), hS⟩
       have MP0 := M8.out.popped (W1 := w12) hB hbb (t' := twoT nm lt t) (b0 := 4) (b1 := 0) (b2 := nm) (b3 := some ⟨W8.heap.size + 1, 0, none⟩) (b4 := 2) (b5 := 2)
        ⟨_, _, rfl, Nat.le_refl _, (fun h => by cases h), fun _ => ⟨W8.heap.size + 1, _, _, rfl, .inr (by omega), (hbx.out.block _ (by simp; omega)).trans (heap_at _ _ (by simp; omega)), fun i hi => by
         rcases (by omega : i = 0 ∨ i = 1) with rfl | rfl
         ·exact ⟨_, _, _, _, rfl, rfl, rfl, rfl, (tpm (M8.out.st _ List.mem_cons_self)).more fun b hb => .inl hb⟩
         ·exact ⟨_, _, _, _, rfl, rfl, rfl, rfl, (tpm M8.out.ht).more fun b hb => .inl hb⟩⟩⟩
       have MP := Lib.hid MP0
       clear MP0 hbb tpm hbx htb12 hm12 z0 z1 z2 z3 y0
       go_wp2_with fail
       go_roundw
       case rel => exact ⟨j, S, twoT nm lt t, 4, 0, nm, some ⟨W8.heap.size + 1, 0, none⟩, 2, 2, po, pp, ns', some ⟨gb, 0, none⟩, cc, rfl, MP.out, HKN⟩
       case measure =>
        rw [MP.out.rd.left_eq, M.out.rd.left_eq, MP.out.len_eq, M.out.len_eq]
        simp only [List.length_cons]
        omega
end Go.Proofs.YtibcpdmeigdgpaaGreatDoor
