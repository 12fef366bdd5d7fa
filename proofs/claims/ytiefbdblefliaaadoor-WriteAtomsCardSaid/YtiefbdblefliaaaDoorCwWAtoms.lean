/- The walk of WriteAtoms. -/
import Derived.Test.YtiefbdblefliaaaDoorWa0
import Derived.Test.YtiefbdblefliaaaDoorCwWBack
namespace Go.Proofs.YtiefbdblefliaaaDoor
open Go.RowKit

theorem atm_tp {w : World} {S : Nat → Prop} {n : Int} {s : ByteArray} {g : Nat} (hg : w.heap[g]? = some (.cells #[.int .i64 2, .int .i64 n, .string ⟨#[]⟩, .slice none 0 0, .int .i64 3, .int .i64 0, .string s, .slice none 0 0] 24 (0, 0))) (hS : S g) :
    TP w S (atmT n s) (.agg #[.int .i64 4, .int .i64 0, .string s, .slice (some ⟨g, 0, none⟩) 2 2]) := by
  refine ⟨_, 2, rfl, Nat.le_refl _, (fun h => by cases h), fun _ => ⟨g, _, (0, 0), rfl, hS, hg, fun i hi => ?_⟩⟩
  rcases i with _ | _ | i
  · exact ⟨_, _, _, _, rfl, rfl, rfl, rfl, TP.leaf _ _ 2 n ⟨#[]⟩⟩
  · exact ⟨_, _, _, _, rfl, rfl, rfl, rfl, TP.leaf _ _ 3 0 s⟩
  · omega
set_option maxRecDepth 100000 in
set_option maxHeartbeats 8000000 in
theorem writeatoms_any (s : ByteArray) (n : Int) (hn : I64 n) (w : World) (hT : TabX w) :
    Calls Tryd.prog 4 #[.string s, .int .i64 n] w fun e w' => e = .returned (.bool true) ∧ Below w.heap.size w w' := by
  by_cases hbig : (512 : Int) < (s.size : Int)
  · go_enter Tryd.func4, Tryd.ntmps4
    go_wp2_with fail
    go_ret
    exact ⟨rfl, Below.refl _ _⟩
  have hs : s.size ≤ 512 := by omega
  have hf0 := atm_fit hn hs
  have hnd0 := atm_nodes n s
  have HBK := Lib.hid (fun (s0 : ByteArray) hw h0 => atm_back (s0 := s0) hn hs hw h0)
  have HTP := Lib.hid (fun (w : World) (S : Nat → Prop) (g : Nat) hg hS => atm_tp (w := w) (S := S) (n := n) (s := s) (g := g) hg hS)
  obtain ⟨t, ht⟩ : ∃ t, atmT n s = t := ⟨_, rfl⟩
  rw [ht] at hf0 hnd0 HBK HTP
  have hf := Lib.hid hf0
  have hnd := Lib.hid hnd0
  clear ht hf0 hnd0
  obtain ⟨s0, hs0⟩ := text_of [] t
  obtain ⟨gd, hgd⟩ := good_of t
  have HS0 := Lib.hid hs0
  have HGD := Lib.hid hgd
  have hse := text_empty hs0 hf.out
  have HTX := Lib.hid hT
  obtain ⟨W2, hW2⟩ : ∃ W2, (w.alloc (Obj.cells #[.int .i64 2, .int .i64 n, .string ⟨#[]⟩, .slice none 0 0, .int .i64 3, .int .i64 0, .string s, .slice none 0 0] 24)).alloc (Obj.cells #[.int .i64 4, .int .i64 0, .string s, .slice (some ⟨w.heap.size, 0, none⟩) 2 2] 24) = W2 := ⟨_, rfl⟩
  have HW2 := Lib.hid hW2
  have hbx := two_boxes w (Obj.cells #[.int .i64 2, .int .i64 n, .string ⟨#[]⟩, .slice none 0 0, .int .i64 3, .int .i64 0, .string s, .slice none 0 0] 24) (Obj.cells #[.int .i64 4, .int .i64 0, .string s, .slice (some ⟨w.heap.size, 0, none⟩) 2 2] 24)
  have BA := Lib.hid (belA (belA (Below.refl w.heap.size w) (Obj.cells #[.int .i64 2, .int .i64 n, .string ⟨#[]⟩, .slice none 0 0, .int .i64 3, .int .i64 0, .string s, .slice none 0 0] 24)) (Obj.cells #[.int .i64 4, .int .i64 0, .string s, .slice (some ⟨w.heap.size, 0, none⟩) 2 2] 24))
  rw [hW2] at hbx BA
  have XA := Lib.hid hbx.2
  have hl2 := heap_lt hbx.2
  have G := Lib.hid ((HTP.out W2 (fun _ => True) w.heap.size hbx.1 trivial).gt)
  have CP := Lib.hid ((pwrite_any (by have := hnd.out; omega) hf.out _ _ W2 G.out (HTX.out.below BA.out)).mono fun e w' h => nm_fix HS0.out h)
  have CR := Lib.hid (fun (W : World) (k : Below W2.heap.size W2 W) => (rwrite_any (by have := hnd.out; omega) hf.out _ _ W (G.out.below k)).mono fun e w' h => nm_fix HS0.out h)
  have CG := Lib.hid (fun (W : World) (k : Below W2.heap.size W2 W) => (pgood_any hf.out.short (by have := hnd.out; omega) (G.out.below k)).mono fun e w' h => good_fix HGD.out h)
  have hss : (s0.toList == s0.toList) = true := beq_self_eq_true _
  clear hs0 hT hbx hgd hW2 HTP
  go_enter Tryd.func4, Tryd.ntmps4
  go_wp2_with fail
  rw [HW2.out]
  refine CP.out.mono ?_
  rintro e w2 ⟨rfl, hb2⟩
  have B2 := Lib.hid hb2
  have X2 := Lib.hid ((hb2.block _ hl2).trans XA.out)
  obtain ⟨x0, x1, x2, x3⟩ := box4t X2.out
  have hx2 := heap_lt X2.out
  have C2 := Lib.hid (CR.out w2 B2.out)
  clear hb2 CP
  go_wp2_with fail
  refine C2.out.mono ?_
  rintro e w3 ⟨rfl, hb3⟩
  have B3 := Lib.hid (B2.out.trans (hb3.mono B2.out.size))
  have X3 := Lib.hid ((hb3.block _ hx2).trans X2.out)
  have hx3 := heap_lt X3.out
  clear hb3 C2 x0 x1 x2 x3
  obtain ⟨x0, x1, x2, x3⟩ := box4t X3.out
  have C3 := Lib.hid (CG.out w3 B3.out)
  go_wp2_with fail
  refine C3.out.mono ?_
  rintro e w4 ⟨rfl, hb4⟩
  have B4 := Lib.hid (B3.out.trans (hb4.mono B3.out.size))
  have X4 := Lib.hid ((hb4.block _ hx3).trans X3.out)
  have hx4 := heap_lt X4.out
  have W4 := Lib.hid (BA.out.trans (B4.out.mono BA.out.size))
  clear hb4 C3 x0 x1 x2 x3
  rcases hse with ⟨hse, hgd, hwr, hs0⟩ | ⟨hse, hgd⟩
  · obtain rfl : gd = true := HGD.out.2 hgd
    have HS := Lib.hid (HBK.out s0 hwr hs0)
    have C4 := Lib.hid (onex_any s0 w4)
    clear hs0 hgd hwr
    go_wp2_with fail
    refine C4.out.mono ?_
    rintro e w5 ⟨⟨k2, n2, nm2, A2, m2, c2, NA2, nn2, nc2, p2, er2, rfl, h0, h1⟩, hb5⟩
    have B5 := Lib.hid (B4.out.trans (hb5.mono B4.out.size))
    have W5 := Lib.hid (W4.out.trans (hb5.mono W4.out.size))
    have X5 := Lib.hid ((hb5.block _ hx4).trans X4.out)
    have hx5 := heap_lt X5.out
    obtain ⟨u, ns, qs, hq1, hq2⟩ := HS.out
    obtain rfl : er2 = 0 := by
      by_cases he2 : er2 = 0
      · exact he2
      · have := (h1.out he2).1
        rw [hq1] at this
        cases this
    obtain ⟨u', ns', h2, h3, _, _⟩ := h0.out rfl
    rw [hq1] at h2
    injection h2 with h2
    injection h2 with h2 _
    subst h2
    have BZ := Lib.hid (belA (Below.refl w5.heap.size w5) (Obj.cells #[.int .i64 k2, .int .i64 n2, .string nm2, .slice A2 m2 c2, .slice NA2 nn2 nc2] 27))
    have X6 := Lib.hid ((BZ.out.block _ hx5).trans X5.out)
    have Z6 := Lib.hid (heap_alloc_new w5 (Obj.cells #[.int .i64 k2, .int .i64 n2, .string nm2, .slice A2 m2 c2, .slice NA2 nn2 nc2] 27))
    have CA := Lib.hid (alike_any t u [] qs _ _ _ _ _ _ hq2 (G.out.below (B5.out.trans (BZ.out.mono B5.out.size))) (h3.gt.below BZ.out) (PRw.nil _) (by have := hnd.out; simp; omega))
    obtain ⟨x0, x1, x2, x3⟩ := box4t X6.out
    obtain ⟨z0, z1, z2, z3, _⟩ := box5 Z6.out
    clear h0 h1 h3 hb5 C4 hq1 hq2
    go_wp2_with fail
    refine CA.out.mono ?_
    rintro e w6 ⟨v6, rfl, _, hb6⟩
    have W6 := Lib.hid ((W5.out.trans (BZ.out.mono W5.out.size)).trans (hb6.mono (Nat.le_trans W5.out.size BZ.out.size)))
    clear hb6 CA x0 x1 x2 x3 z0 z1 z2 z3
    go_wp2_with fail
    go_ret
    exact ⟨rfl, W6.out⟩
  · obtain rfl : gd = false := by
      cases gd with
      | false => rfl
      | true => exact absurd (HGD.out.1 rfl) hgd
    clear hgd
    go_wp2_with fail
    go_ret
    exact ⟨rfl, W4.out⟩
end Go.Proofs.YtiefbdblefliaaaDoor
