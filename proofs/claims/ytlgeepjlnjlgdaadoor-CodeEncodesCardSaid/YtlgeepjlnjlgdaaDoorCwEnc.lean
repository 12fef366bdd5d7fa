/- The walk through the law CodeEncodes. -/
import Derived.Test.YtlgeepjlnjlgdaaDoorGg
import Derived.Test.YtlgeepjlnjlgdaaDoorGv
import Derived.Test.YtlgeepjlnjlgdaaDoorCo7
import Derived.Test.YtlgeepjlnjlgdaaDoorCo9
import Derived.Test.YtlgeepjlnjlgdaaDoorTx1
import Derived.Test.YtlgeepjlnjlgdaaDoorTx2
import Derived.Deep.CutBlock
namespace Go.Proofs.YtlgeepjlnjlgdaaDoor
open Go.RowKit

set_option maxRecDepth 100000 in
set_option maxHeartbeats 8000000 in
theorem codeencodes_any (s : ByteArray) (w : World) (htab : TabX w) : Calls Tryd.prog 3 #[.string s] w fun e w' => e = .returned (.bool true) ∧ Below w.heap.size w w' := by
  have TB0 := Lib.hid htab
  clear htab
  go_enter Tryd.func3, Tryd.ntmps3
  go_wp2_with fail
  refine (clause_any s w).mono ?_
  rintro e w1 ⟨⟨h0, h1, h2, h3, h4, h5, gv, is, rfl, hcl⟩, hb1⟩
  have CL := Lib.hid hcl
  have B1 := Lib.hid hb1
  have hw1 := hb1.size
  clear hcl hb1
  go_upto_if 15 with (fail)
  go_cut [] (fun wx => ∃ (th : T) (gs : List T) (S P : Nat → Prop) (B : Nat) (qs : List Q6) (h0 h1 : Int) (h2 : ByteArray) (h3 : Option Addr) (h4 h5 : Nat), ClM w wx w1.heap.size gv th gs S P B qs h0 h1 h2 h3 h4 h5)
  case first =>
    cases is with
    | true =>
      have hcl := CL.out
      rcases hcl with ⟨h, _⟩ | ⟨_, th, gs, B, S, P, qs, hS, hB, htp, htl, g1, g2, g3, g4, g5⟩
      · cases h
      · have CM := Lib.hid (show ClM w (w1.alloc (Obj.cells #[.int .i64 h0, .int .i64 h1, .string h2, .slice h3 h4 h5] 24)) w1.heap.size gv th gs S P B qs h0 h1 h2 h3 h4 h5 from
          ⟨heap_alloc_new _ _, htp.below ((Below.refl _ _).alloc (Nat.le_refl _) _), htl.below ((Below.refl _ _).alloc (Nat.le_refl _) _), hS, belA B1.out _, hw1, ⟨g1, g2, g3, g4⟩, g5⟩)
        clear hS hB htp htl g1 g2 g3 g4 g5
        go_wp2_with fail
        go_meet
        exact ⟨_, _, _, _, _, _, _, _, _, _, _, _, CM.out⟩
    | false =>
      have hcl := CL.out
      rcases hcl with ⟨_, rfl⟩ | ⟨h, _⟩
      · have CM := Lib.hid (show ClM w (w1.alloc (Obj.cells #[.int .i64 3, .int .i64 0, .string ⟨#[97]⟩, .slice none 0 0] 24)) w1.heap.size (.slice none 0 0) (T.mk 3 0 ⟨#[97]⟩ 0 fun _ => .nil) [] (fun _ => False) (fun _ => False) 0 [] 3 0 ⟨#[97]⟩ none 0 0 from
          ⟨heap_alloc_new _ _, TP.leaf _ _ _ _ _, TL.empty (World.ownsRow_nil _ _ _ _) (fun _ h => h.elim), fun _ h => h.elim, belA B1.out _, hw1, ⟨a_good, by simp, by rw [leaf_nodes]; decide, by simp [nodesL]⟩, Lib.hid ⟨.inl rfl, by rw [leaf_nodes]; decide, by simp, by rw [leaf_nodes]; decide⟩⟩)
        go_wp2_with fail
        go_meet
        exact ⟨_, _, _, _, _, _, _, _, _, _, _, _, CM.out⟩
      · cases h
  case rest =>
    clear CL
    obtain ⟨th, gs, S, P, B, qs, k0, k1, k2, k3, k4, k5, hcm⟩ := hcut
    have C2 := Lib.hid hcm
    obtain ⟨x0, x1, x2, x3⟩ := box4t hcm.box
    obtain ⟨A, c, rfl, hc, hA, _⟩ := hcm.tl.all
    have hx := heap_lt hcm.box
    have HKC := Lib.hid hcm.kc.out
    have GK := Lib.hid (show th.ok ∧ (∀ g ∈ gs, g.ok) ∧ gs.length ≤ 2002 from ⟨⟨hcm.good.1, by have := hcm.good.2.2.1; omega⟩, fun g hg => ⟨hcm.good.2.1 g hg, by have := (hcm.kc.out.2.2.1 g hg).2; omega⟩, Nat.le_trans (nodesL_len gs hcm.good.2.1) hcm.good.2.2.2⟩)
    obtain ⟨l, hl⟩ : ∃ l, l = encN th gs := ⟨_, rfl⟩
    have HL := Lib.hid hl
    have WO := Lib.hid (whole_ok GK.out.1 GK.out.2.1 hcm.good.2.2.1 hcm.good.2.2.2)
    have HLN := Lib.hid (show l.length ≤ 3012 by
      rw [hl, enc_len2 hcm.good.1.kinds fun g hm => (hcm.good.2.1 g hm).kinds]
      have := hcm.kc.out.2.2.2
      omega)
    have HIN := Lib.hid (show ∀ x ∈ l, I64 x.a ∧ x.s.size ≤ 4096 from fun x hx => by
      rw [hl] at hx
      have h1 := enc_in1 ⟨hcm.good.1, by have := hcm.good.2.2.1; omega⟩ (fun g hm => ⟨hcm.good.2.1 g hm, by have := (hcm.kc.out.2.2.1 g hm).2; omega⟩) (varsT_few WO.out) x hx
      exact ⟨h1.1, h1.2.1.1⟩)
    clear hcm
    have CE := Lib.hid (pencode_any GK.out.1 GK.out.2.1 C2.out.tp C2.out.tl (by have := C2.out.good.2.2.2; omega) (by have := GK.out.2.2; omega))
    clear hl
    go_wp2_with fail
    refine CE.out.mono ?_
    rintro e w2 ⟨lv, rfl, hlr, hk⟩
    have C3 := Lib.hid (C2.out.below hk.low)
    have L2 := Lib.hid (show IRw w2 wc.heap.size lv l by rw [HL.out]; exact hlr)
    have CR := Lib.hid (rencode_any GK.out.1 GK.out.2.1 C3.out.tp C3.out.tl (by have := C2.out.good.2.2.2; omega) (by have := GK.out.2.2; omega))
    obtain ⟨y0, y1, y2, y3⟩ := box4t C3.out.box
    have hx3 := heap_lt C3.out.box
    clear hlr hk CE x0 x1 x2 x3
    go_wp2_with fail
    refine CR.out.mono ?_
    rintro e w3 ⟨rv, rfl, hlr, hk⟩
    have C4 := Lib.hid (C3.out.below hk.low)
    have L3 := Lib.hid (show IRw w3 wc.heap.size lv l from own_below L2.out hk.low)
    have R3 := Lib.hid (show IRw w3 w2.heap.size rv l by rw [HL.out]; exact hlr)
    have CQ := Lib.hid (isame_any w3 L3.out R3.out (by have := HLN.out; omega))
    clear hlr hk CR y0 y1 y2 y3
    go_wp2_with fail
    refine CQ.out.mono ?_
    rintro e w4 ⟨⟨qb, rfl, hqb⟩, hb4⟩
    obtain rfl : qb = true := hqb.2 (by first | rfl | trivial)
    have C5 := Lib.hid (C4.out.below hb4)
    have L4 := Lib.hid (show IRw w4 wc.heap.size lv l from own_below L3.out hb4)
    have R4 := Lib.hid (show IRw w4 w2.heap.size rv l from own_below R3.out hb4)
    have CT := Lib.hid (ptext_any w4 L4.out (by have := HLN.out; omega) HIN.out (TB0.out.below C5.out.low))
    clear hqb hb4 CQ
    go_wp2_with fail
    refine CT.out.mono ?_
    rintro e w5 ⟨rfl, hb5⟩
    have C6 := Lib.hid (C5.out.below hb5)
    have L5 := Lib.hid (show IRw w5 wc.heap.size lv l from own_below L4.out hb5)
    have R5 := Lib.hid (show IRw w5 w2.heap.size rv l from own_below R4.out hb5)
    have CU := Lib.hid (rtext_any w5 R5.out (by have := HLN.out; omega) HIN.out)
    clear hb5 CT
    go_wp2_with fail
    refine CU.out.mono ?_
    rintro e w6 ⟨rfl, hb6⟩
    have C7 := Lib.hid (C6.out.below hb6)
    have L6 := Lib.hid (show IRw w6 wc.heap.size lv l from own_below L5.out hb6)
    have R6 := Lib.hid (show IRw w6 w2.heap.size rv l from own_below R5.out hb6)
    have CS := Lib.hid (pslots_any w6 L6.out (by have := HLN.out; omega))
    clear hb6 CU
    go_wp2_with fail
    refine CS.out.mono ?_
    rintro e w7 ⟨rfl, hb7⟩
    have C8 := Lib.hid (C7.out.below hb7)
    have R7 := Lib.hid (show IRw w7 w2.heap.size rv l from own_below R6.out hb7)
    have CV := Lib.hid (rslots_any w7 R7.out (by have := HLN.out; omega))
    clear hb7 CS
    go_wp2_with fail
    refine CV.out.mono ?_
    rintro e w8 ⟨rfl, hb8⟩
    have C9 := Lib.hid (C8.out.below hb8)
    clear hb8 CV
    go_wp2_with fail
    go_ret
    exact ⟨rfl, C9.out.low⟩
end Go.Proofs.YtlgeepjlnjlgdaaDoor
