/- The walk through the law CodeBack. -/
import Derived.Test.YtlgeepjlnjlgdaaGk
import Derived.Test.YtlgeepjlnjlgdaaGg
import Derived.Test.YtlgeepjlnjlgdaaDq4
import Derived.Deep.CutBlock
namespace Go.Proofs.Ytlgeepjlnjlgdaa
open Go.RowKit

set_option maxRecDepth 100000 in
set_option maxHeartbeats 8000000 in
theorem codeback_any (s : ByteArray) (w : World) : Calls Try.prog 4 #[.string s] w fun e w' => e = .returned (.bool true) ∧ Below w.heap.size w w' := by
  go_enter Try.func4, Try.ntmps4
  go_wp2_with fail
  refine (clause_any s w).mono ?_
  rintro e w1 ⟨⟨h0, h1, h2, h3, h4, h5, gv, is, rfl, hcl⟩, hb1⟩
  have CL := Lib.hid hcl
  have B1 := Lib.hid hb1
  have hw1 := hb1.size
  clear hcl hb1
  go_upto_if 17 with (fail)
  go_cut [] (fun wx => ∃ (th : T) (gs : List T) (S P : Nat → Prop) (B : Nat) (qs : List Q6) (h0 h1 : Int) (h2 : ByteArray) (h3 : Option Addr) (h4 h5 : Nat), ClM w wx w1.heap.size gv th gs S P B qs h0 h1 h2 h3 h4 h5)
  case first =>
    cases is with
    | true =>
      have hcl := CL.out
      rcases hcl with ⟨h, _⟩ | ⟨_, th, gs, B, S, P, qs, hS, hB, htp, htl, g1, g2, g3, g4, g5⟩
      · cases h
      · have CM := Lib.hid (show ClM w (w1.alloc (Obj.cells #[.int .i64 h0, .int .i64 h1, .string h2, .slice h3 h4 h5] 24)) w1.heap.size gv th gs S P B qs h0 h1 h2 h3 h4 h5 from
          ⟨heap_alloc_new _ _, htp.below ((Below.refl _ _).alloc (Nat.le_refl _) _), htl.below ((Below.refl _ _).alloc (Nat.le_refl _) _), hS, belA B1.out _, hw1, ⟨g1, g2, g3, g4⟩, g5⟩)
        clear hS hB htp htl g1 g2 g3 g4 g5
        go_wp2_with fail
        go_meet
        exact ⟨_, _, _, _, _, _, _, _, _, _, _, _, CM.out⟩
    | false =>
      have hcl := CL.out
      rcases hcl with ⟨_, rfl⟩ | ⟨h, _⟩
      · have CM := Lib.hid (show ClM w (w1.alloc (Obj.cells #[.int .i64 3, .int .i64 0, .string ⟨#[97]⟩, .slice none 0 0] 24)) w1.heap.size (.slice none 0 0) (T.mk 3 0 ⟨#[97]⟩ 0 fun _ => .nil) [] (fun _ => False) (fun _ => False) 0 [] 3 0 ⟨#[97]⟩ none 0 0 from
          ⟨heap_alloc_new _ _, TP.leaf _ _ _ _ _, TL.empty (World.ownsRow_nil _ _ _ _) (fun _ h => h.elim), fun _ h => h.elim, belA B1.out _, hw1, ⟨a_good, by simp, by rw [leaf_nodes]; decide, by simp [nodesL]⟩, Lib.hid ⟨.inl rfl, by rw [leaf_nodes]; decide, by simp⟩⟩)
        go_wp2_with fail
        go_meet
        exact ⟨_, _, _, _, _, _, _, _, _, _, _, _, CM.out⟩
      · cases h
  case rest =>
    clear CL
    obtain ⟨th, gs, S, P, B, qs, k0, k1, k2, k3, k4, k5, hcm⟩ := hcut
    have C2 := Lib.hid hcm
    obtain ⟨x0, x1, x2, x3⟩ := box4t hcm.box
    obtain ⟨A, c, rfl, hc, hA, _⟩ := hcm.tl.all
    have hx := heap_lt hcm.box
    obtain ⟨V, hV⟩ : ∃ V, V = varsT (wholeT th gs) := ⟨_, rfl⟩
    have CF := Lib.hid (cfacts hcm.good hcm.kc.out hV)
    obtain ⟨l, hl⟩ : ∃ l, l = encN th gs := ⟨_, rfl⟩
    have HL := Lib.hid hl
    have HIN := Lib.hid (show InsIn l by rw [hl]; exact CF.out.ins)
    obtain ⟨th2, ht2⟩ : ∃ x, x = renT V th := ⟨_, rfl⟩
    obtain ⟨gs2, hg2⟩ : ∃ x, x = gs.map (renT V) := ⟨_, rfl⟩
    have HDC := Lib.hid (show decR (rdT l 1000) l = some (th2, gs2) by rw [hl, ht2, hg2]; exact CF.out.dec)
    have HEN := Lib.hid (show encN th2 gs2 = l by rw [hl, ht2, hg2]; exact CF.out.enc)
    have ROK := Lib.hid (show th2.ok ∧ (∀ g ∈ gs2, g.ok) ∧ (wholeT th2 gs2).ok by rw [ht2, hg2]; exact CF.out.rok)
    have EQV := Lib.hid (show eqT (numT (varsT (wholeT th gs)) (wholeT th gs)) (numT (varsT (wholeT th2 gs2)) (wholeT th2 gs2)) by rw [ht2, hg2]; exact CF.out.eqv)
    have HLN := Lib.hid (show l.length ≤ 6000 from HIN.out.few)
    have HNL := Lib.hid (show nodesL gs2 ≤ 2002 ∧ gs2.length ≤ 2002 by rw [hg2, sumL_map CF.out.few gs hcm.good.2.1, List.length_map]; exact ⟨hcm.good.2.2.2, CF.out.ok.2.2⟩)
    clear ht2 hg2
    clear hcm hV
    have CE := Lib.hid (pencode_any CF.out.ok.1 CF.out.ok.2.1 C2.out.tp C2.out.tl (by have := C2.out.good.2.2.2; omega) (by have := CF.out.ok.2.2; omega))
    clear hl
    go_wp2_with fail
    refine CE.out.mono ?_
    rintro e w2 ⟨lv, rfl, hlr, hk⟩
    have C3 := Lib.hid (C2.out.below hk.low)
    have L2 := Lib.hid (show IRw w2 wc.heap.size lv l by rw [HL.out]; exact hlr)
    have CD := Lib.hid (pdecode_any HIN.out L2.out)
    clear hlr hk CE x0 x1 x2 x3
    go_wp2_with fail
    refine CD.out.mono ?_
    rintro e w3 ⟨hv3, gv3, er, rfl, hb3, hq⟩
    have hq2 := hq.out
    rw [HDC.out] at hq2
    obtain ⟨rfl, hu1, hu2, hu3, BU, SU, PU, qu, hSU, hSB, htu, htg⟩ := hq2
    obtain ⟨u0, u1, u2, u3, u4, u5, rfl⟩ := htu.agg
    obtain ⟨gA, gc, rfl, hgc, hgA, _⟩ := htg.all
    have C4' := Lib.hid (C3.out.below hb3)
    have L3 := Lib.hid (own_below L2.out hb3)
    obtain ⟨X, hX⟩ : ∃ X, X = w1.heap.size := ⟨_, rfl⟩
    obtain ⟨Y, hY⟩ : ∃ Y, Y = w3.heap.size := ⟨_, rfl⟩
    obtain ⟨W, hW⟩ : ∃ W, W = w3.alloc (Obj.cells #[.int .i64 u0, .int .i64 u1, .string u2, .slice u3 u4 u5] 24) := ⟨_, rfl⟩
    have HW := Lib.hid hW
    have BW := Lib.hid (show Below w3.heap.size w3 W by rw [hW]; exact Below.alloc (Below.refl _ _) (Nat.le_refl _) _)
    have HYB := Lib.hid (show W.heap[Y]? = some (.cells #[.int .i64 u0, .int .i64 u1, .string u2, .slice u3 u4 u5] 24 (0, 0)) by rw [hW, hY]; exact heap_alloc_new _ _)
    have C4 := Lib.hid (C4'.out.below BW.out)
    have TU := Lib.hid (htu.below BW.out)
    have TG := Lib.hid (show TL W BU SU PU (.slice gA gs2.length gc) gs2 qu from (⟨htg.len, htg.own, fun i h1 h2 => (htg.tp i h1 h2).more fun b hb => hb.imp (fun h => h.elim) id, htg.lo, htg.off, hSB⟩ : TL w3 BU SU PU _ gs2 qu).below BW.out)
    have L4 := Lib.hid (own_below L3.out BW.out)
    have HSB := Lib.hid (show ∀ b, SU b → b < W.heap.size from fun b hb => by have := BW.out.size; have := hSU b hb; omega)
    have R0 := Lib.hid (show Below W.heap.size W W.drew from (Below.refl _ _).drew)
    have HXB := Lib.hid (show W.heap[X]? = some (.cells #[.int .i64 k0, .int .i64 k1, .string k2, .slice k3 k4 k5] 24 (0, 0)) by rw [hX]; exact C4.out.box)
    have SS := Lib.hid (show ∀ V, Below W.heap.size W V → V.cell? ⟨X, 0, none⟩ = some (.int .i64 k0) ∧ V.cell? ⟨X, 1, none⟩ = some (.int .i64 k1) ∧ V.cell? ⟨X, 2, none⟩ = some (.string k2) ∧ V.cell? ⟨X, 3, none⟩ = some (.slice k3 k4 k5) ∧ V.cell? ⟨Y, 0, none⟩ = some (.int .i64 u0) ∧ V.cell? ⟨Y, 1, none⟩ = some (.int .i64 u1) ∧ V.cell? ⟨Y, 2, none⟩ = some (.string u2) ∧ V.cell? ⟨Y, 3, none⟩ = some (.slice u3 u4 u5) from fun V hV => by
      obtain ⟨x0, x1, x2, x3⟩ := box4t ((hV.block _ (heap_lt HXB.out)).trans HXB.out)
      obtain ⟨y0, y1, y2, y3⟩ := box4t ((hV.block _ (heap_lt HYB.out)).trans HYB.out)
      exact ⟨x0, x1, x2, x3, y0, y1, y2, y3⟩)
    clear hq htu htg hb3 CD hW hu1 hu2 hu3 hSU hSB
    go_upto_region 6 with fail
    rw [← HW.out, ← hX, ← hY]
    clear hX hY
    refine wp_region_held_drew (S := fun w1 => w1.cell? ⟨X, 0, none⟩ = some (.int .i64 k0) ∧ w1.cell? ⟨X, 1, none⟩ = some (.int .i64 k1) ∧ w1.cell? ⟨X, 2, none⟩ = some (.string k2) ∧ w1.cell? ⟨X, 3, none⟩ = some (.slice k3 k4 k5) ∧ w1.cell? ⟨Y, 0, none⟩ = some (.int .i64 u0) ∧ w1.cell? ⟨Y, 1, none⟩ = some (.int .i64 u1) ∧ w1.cell? ⟨Y, 2, none⟩ = some (.string u2) ∧ w1.cell? ⟨Y, 3, none⟩ = some (.slice u3 u4 u5)) (by kernel_rfl) ?Srb (fun hH0 => ?Brb)
    case Srb => (exact SS.out _ R0.out)
    refine wpAnyH_take (i := 0) (oi := { dst := some 28, op := Go.Op.move (Go.Operand.tmp 9), type := 37, pos := "law.go:64", after := #[], guard := none }) (v := ?vrb0) rfl (by kernel_rfl) (by kernel_rfl) (by kernel_rfl) (fun _ _ _ h => h) (Or.inl ⟨by rfl, ?hyrb0⟩) (by assumption) ?restrb0
    case hyrb0 => (intro w hSw; (try dsimp only at hSw); go_simp; try with_reducible rfl)
    try simp only [Act.put, List.setIfInBounds_toArray, List.set_cons_zero, List.set_cons_succ]
    refine wpAnyH_take (i := 1) (oi := { dst := some 29, op := Go.Op.binOp Go.BinOp.eql 37 (Go.Operand.tmp 28) (Go.Operand.const (Go.Value.int Go.IntKind.i64 0)) 37, type := 4, pos := "law.go:64", after := #[{ on := 0, ground := Go.Ground.data }], guard := none }) (v := ?vrb1) rfl (by kernel_rfl) (by kernel_rfl) (by kernel_rfl) (fun _ _ _ h => h) (Or.inl ⟨by rfl, ?hyrb1⟩) (by assumption) ?restrb1
    case hyrb1 => (intro w hSw; (try dsimp only at hSw); go_simp; try with_reducible rfl)
    try simp only [Act.put, List.setIfInBounds_toArray, List.set_cons_zero, List.set_cons_succ]
    refine wpAnyH_take (i := 2) (oi := { dst := some 30, op := Go.Op.move (Go.Operand.tmp 29), type := 4, pos := "law.go:64", after := #[{ on := 1, ground := Go.Ground.data }], guard := none }) (v := ?vrb2) rfl (by kernel_rfl) (by kernel_rfl) (by kernel_rfl) (fun _ _ _ h => h) (Or.inl ⟨by rfl, ?hyrb2⟩) (by assumption) ?restrb2
    case hyrb2 => (intro w hSw; (try dsimp only at hSw); go_simp; try with_reducible rfl)
    try simp only [Act.put, List.setIfInBounds_toArray, List.set_cons_zero, List.set_cons_succ]
    refine wpAnyH_take (i := 3) (oi := { dst := some 31, op := Go.Op.load 24 (Go.Operand.tmp 3), type := 24, pos := "law.go:64", after := #[{ on := 2, ground := Go.Ground.guard }], guard := some (2, true) }) (v := ?vrb3) rfl (by kernel_rfl) (by kernel_rfl) (by kernel_rfl) (fun _ _ _ h => h) (Or.inl ⟨by rfl, ?hyrb3⟩) (by assumption) ?restrb3
    case hyrb3 => (intro w hSw; (try dsimp only at hSw); go_simp; try with_reducible rfl)
    try simp only [Act.put, List.setIfInBounds_toArray, List.set_cons_zero, List.set_cons_succ]
    refine wpAnyH_take (i := 4) (oi := { dst := some 32, op := Go.Op.move (Go.Operand.tmp 4), type := 22, pos := "law.go:64", after := #[{ on := 2, ground := Go.Ground.guard }], guard := some (2, true) }) (v := ?vrb4) rfl (by kernel_rfl) (by kernel_rfl) (by kernel_rfl) (fun _ _ _ h => h) (Or.inl ⟨by rfl, ?hyrb4⟩) (by assumption) ?restrb4
    case hyrb4 => (intro w hSw; (try dsimp only at hSw); go_simp; try with_reducible rfl)
    try simp only [Act.put, List.setIfInBounds_toArray, List.set_cons_zero, List.set_cons_succ]
    refine wpAnyH_take (i := 6) (oi := { dst := some 34, op := Go.Op.load 24 (Go.Operand.tmp 7), type := 24, pos := "law.go:64", after := #[{ on := 2, ground := Go.Ground.guard }], guard := some (2, true) }) (v := ?vrb6) rfl (by kernel_rfl) (by kernel_rfl) (by kernel_rfl) (fun _ _ _ h => h) (Or.inl ⟨by rfl, ?hyrb6⟩) (by assumption) ?restrb6
    case hyrb6 => (intro w hSw; (try dsimp only at hSw); go_simp; try with_reducible rfl)
    try simp only [Act.put, List.setIfInBounds_toArray, List.set_cons_zero, List.set_cons_succ]
    refine wpAnyH_take (i := 7) (oi := { dst := some 35, op := Go.Op.move (Go.Operand.tmp 8), type := 22, pos := "law.go:64", after := #[{ on := 2, ground := Go.Ground.guard }], guard := some (2, true) }) (v := ?vrb7) rfl (by kernel_rfl) (by kernel_rfl) (by kernel_rfl) (fun _ _ _ h => h) (Or.inl ⟨by rfl, ?hyrb7⟩) (by assumption) ?restrb7
    case hyrb7 => (intro w hSw; (try dsimp only at hSw); go_simp; try with_reducible rfl)
    try simp only [Act.put, List.setIfInBounds_toArray, List.set_cons_zero, List.set_cons_succ]
    refine wpAnyH_ready (rs := [5]) (by kernel_rfl) (by simp) ?_
    refine AllReadyH.cons (o := { dst := some 33, op := Go.Op.call { callee := Go.Callee.value (Go.Operand.func 9), args := #[Go.Operand.tmp 31, Go.Operand.tmp 32], argTypes := #[24, 22] }, type := 24, pos := "law.go:64", after := #[{ on := 3, ground := Go.Ground.data }, { on := 4, ground := Go.Ground.data }, { on := 2, ground := Go.Ground.chain }, { on := 2, ground := Go.Ground.guard }], guard := some (2, true) }) rfl (fun K hK => ?_) ?nilrb5
    case nilrb5 => exact AllReadyH.nil
    go_simp
    (refine (whole_any (C4.out.tp.below R0.out) (C4.out.tl.below R0.out) (fun b hb => by have := C4.out.lt b hb; have := R0.out.size; have := heap_lt C4.out.box; omega) (by have := CF.out.ok.2.2; omega)).mono ?_)
    rintro e w5 ⟨⟨A5, c5, rfl, ht5⟩, hb5⟩
    have R5 := Lib.hid (R0.out.trans (hb5.mono R0.out.size))
    have T5 := Lib.hid ht5
    clear ht5 hb5
    go_wp2_with fail
    refine hK.out _ _ ?Srb5 (fun hH1 => ?restrb5)
    case Srb5 => (exact SS.out _ R5.out)
    clear hK K
    try simp only [Act.put, List.setIfInBounds_toArray, List.set_cons_zero, List.set_cons_succ]
    refine wpAnyH_ready (rs := [8]) (by kernel_rfl) (by simp) ?_
    refine AllReadyH.cons (o := { dst := some 36, op := Go.Op.call { callee := Go.Callee.value (Go.Operand.func 9), args := #[Go.Operand.tmp 34, Go.Operand.tmp 35], argTypes := #[24, 22] }, type := 24, pos := "law.go:64", after := #[{ on := 6, ground := Go.Ground.data }, { on := 7, ground := Go.Ground.data }, { on := 5, ground := Go.Ground.chain }, { on := 2, ground := Go.Ground.guard }], guard := some (2, true) }) rfl (fun K hK => ?_) ?nilrb8
    case nilrb8 => exact AllReadyH.nil
    go_simp
    (refine (whole_any (TU.out.below R5.out) (TG.out.below R5.out) (fun b hb => by have := HSB.out b hb; have := R5.out.size; omega) (by have := HNL.out.2; omega)).mono ?_)
    rintro e w6 ⟨⟨A6, c6, rfl, ht6⟩, hb6⟩
    have R6 := Lib.hid (R5.out.trans (hb6.mono R5.out.size))
    have T6 := Lib.hid ht6
    have T56 := Lib.hid (T5.out.below hb6)
    clear ht6 hb6
    go_wp2_with fail
    refine hK.out _ _ ?Srb8 (fun hH2 => ?restrb8)
    case Srb8 => (exact SS.out _ R6.out)
    clear hK K
    try simp only [Act.put, List.setIfInBounds_toArray, List.set_cons_zero, List.set_cons_succ]
    refine wpAnyH_ready (rs := [9]) (by kernel_rfl) (by simp) ?_
    refine AllReadyH.cons (o := { dst := some 37, op := Go.Op.call { callee := Go.Callee.value (Go.Operand.func 14), args := #[Go.Operand.tmp 33, Go.Operand.tmp 36], argTypes := #[24, 24] }, type := 4, pos := "law.go:64", after := #[{ on := 5, ground := Go.Ground.data }, { on := 8, ground := Go.Ground.data }, { on := 8, ground := Go.Ground.chain }, { on := 2, ground := Go.Ground.guard }], guard := some (2, true) }) rfl (fun K hK => ?_) ?nilrb9
    case nilrb9 => exact AllReadyH.nil
    go_simp
    (refine (variant_any CF.out.whole ROK.out.2.2 T56.out T6.out).mono ?_)
    rintro e w7 ⟨⟨vb, rfl, hvb⟩, hb7⟩
    obtain rfl : vb = true := hvb.out.2 EQV.out
    have R7 := Lib.hid (R6.out.trans (hb7.mono R6.out.size))
    clear hvb hb7
    go_wp2_with fail
    refine hK.out _ _ ?Srb9 (fun hH3 => ?restrb9)
    case Srb9 => (exact SS.out _ R7.out)
    clear hK K
    try simp only [Act.put, List.setIfInBounds_toArray, List.set_cons_zero, List.set_cons_succ]
    refine wpAnyH_take (i := 10) (oi := { dst := some 38, op := Go.Op.pick (Go.Operand.tmp 30) (Go.Operand.tmp 37) (Go.Operand.const (Go.Value.bool false)), type := 4, pos := "law.go:64", after := #[{ on := 2, ground := Go.Ground.data }, { on := 9, ground := Go.Ground.data }], guard := none }) (v := ?vrb10) rfl (by kernel_rfl) (by kernel_rfl) (by kernel_rfl) (fun _ _ _ h => h) (Or.inl ⟨by rfl, ?hyrb10⟩) (by assumption) ?restrb10
    case hyrb10 => (intro w hSw; (try dsimp only at hSw); go_simp; try with_reducible rfl)
    try simp only [Act.put, List.setIfInBounds_toArray, List.set_cons_zero, List.set_cons_succ]
    refine wpAnyH_take (i := 11) (oi := { dst := some 39, op := Go.Op.move (Go.Operand.tmp 38), type := 4, pos := "law.go:64", after := #[{ on := 10, ground := Go.Ground.data }, { on := 9, ground := Go.Ground.chain }], guard := none }) (v := ?vrb11) rfl (by kernel_rfl) (by kernel_rfl) (by kernel_rfl) (fun _ _ _ h => h) (Or.inl ⟨by rfl, ?hyrb11⟩) (by assumption) ?restrb11
    case hyrb11 => (intro w hSw; (try dsimp only at hSw); go_simp; try with_reducible rfl)
    try simp only [Act.put, List.setIfInBounds_toArray, List.set_cons_zero, List.set_cons_succ]
    refine wpAnyH_take (i := 12) (oi := { dst := some 40, op := Go.Op.load 24 (Go.Operand.tmp 7), type := 24, pos := "law.go:64", after := #[{ on := 11, ground := Go.Ground.guard }], guard := some (11, true) }) (v := ?vrb12) rfl (by kernel_rfl) (by kernel_rfl) (by kernel_rfl) (fun _ _ _ h => h) (Or.inl ⟨by rfl, ?hyrb12⟩) (by assumption) ?restrb12
    case hyrb12 => (intro w hSw; (try dsimp only at hSw); go_simp; try with_reducible rfl)
    try simp only [Act.put, List.setIfInBounds_toArray, List.set_cons_zero, List.set_cons_succ]
    refine wpAnyH_take (i := 13) (oi := { dst := some 41, op := Go.Op.move (Go.Operand.tmp 8), type := 22, pos := "law.go:64", after := #[{ on := 11, ground := Go.Ground.guard }], guard := some (11, true) }) (v := ?vrb13) rfl (by kernel_rfl) (by kernel_rfl) (by kernel_rfl) (fun _ _ _ h => h) (Or.inl ⟨by rfl, ?hyrb13⟩) (by assumption) ?restrb13
    case hyrb13 => (intro w hSw; (try dsimp only at hSw); go_simp; try with_reducible rfl)
    try simp only [Act.put, List.setIfInBounds_toArray, List.set_cons_zero, List.set_cons_succ]
    refine wpAnyH_take (i := 15) (oi := { dst := some 43, op := Go.Op.move (Go.Operand.tmp 6), type := 27, pos := "law.go:64", after := #[{ on := 11, ground := Go.Ground.guard }], guard := some (11, true) }) (v := ?vrb15) rfl (by kernel_rfl) (by kernel_rfl) (by kernel_rfl) (fun _ _ _ h => h) (Or.inl ⟨by rfl, ?hyrb15⟩) (by assumption) ?restrb15
    case hyrb15 => (intro w hSw; (try dsimp only at hSw); go_simp; try with_reducible rfl)
    try simp only [Act.put, List.setIfInBounds_toArray, List.set_cons_zero, List.set_cons_succ]
    refine wpAnyH_ready (rs := [14]) (by kernel_rfl) (by simp) ?_
    refine AllReadyH.cons (o := { dst := some 42, op := Go.Op.call { callee := Go.Callee.value (Go.Operand.func 7), args := #[Go.Operand.tmp 40, Go.Operand.tmp 41], argTypes := #[24, 22] }, type := 27, pos := "law.go:64", after := #[{ on := 12, ground := Go.Ground.data }, { on := 13, ground := Go.Ground.data }, { on := 11, ground := Go.Ground.chain }, { on := 11, ground := Go.Ground.guard }], guard := some (11, true) }) rfl (fun K hK => ?_) ?nilrb14
    case nilrb14 => exact AllReadyH.nil
    go_simp
    (refine (pencode_any ROK.out.1 ROK.out.2.1 (TU.out.below R7.out) (TG.out.below R7.out) (by have := HNL.out.1; omega) (by have := HNL.out.2; omega)).mono ?_)
    rintro e w8 ⟨lv8, rfl, hlr8, hk8⟩
    have R8 := Lib.hid (R7.out.trans (hk8.low.mono R7.out.size))
    have L8 := Lib.hid (show IRw w8 w7.heap.size lv8 l by rw [← HEN.out]; exact hlr8)
    clear hlr8 hk8
    go_wp2_with fail
    refine hK.out _ _ ?Srb14 (fun hH4 => ?restrb14)
    case Srb14 => (exact SS.out _ R8.out)
    clear hK K
    try simp only [Act.put, List.setIfInBounds_toArray, List.set_cons_zero, List.set_cons_succ]
    refine wpAnyH_ready (rs := [16]) (by kernel_rfl) (by simp) ?_
    refine AllReadyH.cons (o := { dst := some 44, op := Go.Op.call { callee := Go.Callee.value (Go.Operand.func 11), args := #[Go.Operand.tmp 42, Go.Operand.tmp 43], argTypes := #[27, 27] }, type := 4, pos := "law.go:64", after := #[{ on := 14, ground := Go.Ground.data }, { on := 15, ground := Go.Ground.data }, { on := 14, ground := Go.Ground.chain }, { on := 11, ground := Go.Ground.guard }], guard := some (11, true) }) rfl (fun K hK => ?_) ?nilrb16
    case nilrb16 => exact AllReadyH.nil
    go_simp
    (refine (isame_any _ L8.out (own_below L4.out R8.out) (by have := HLN.out; omega)).mono ?_)
    rintro e w9 ⟨⟨qb, rfl, hqb⟩, hb9⟩
    obtain rfl : qb = true := hqb.2 rfl
    have R9 := Lib.hid (R8.out.trans (hb9.mono R8.out.size))
    clear hqb hb9
    go_wp2_with fail
    refine hK.out _ _ ?Srb16 (fun hH5 => ?restrb16)
    case Srb16 => (exact SS.out _ R9.out)
    clear hK K
    try simp only [Act.put, List.setIfInBounds_toArray, List.set_cons_zero, List.set_cons_succ]
    refine wpAnyH_take (i := 17) (oi := { dst := some 45, op := Go.Op.pick (Go.Operand.tmp 39) (Go.Operand.tmp 44) (Go.Operand.const (Go.Value.bool false)), type := 4, pos := "law.go:64", after := #[{ on := 11, ground := Go.Ground.data }, { on := 16, ground := Go.Ground.data }], guard := none }) (v := ?vrb17) rfl (by kernel_rfl) (by kernel_rfl) (by kernel_rfl) (fun _ _ _ h => h) (Or.inl ⟨by rfl, ?hyrb17⟩) (by assumption) ?restrb17
    case hyrb17 => (intro w hSw; (try dsimp only at hSw); go_simp; try with_reducible rfl)
    try simp only [Act.put, List.setIfInBounds_toArray, List.set_cons_zero, List.set_cons_succ]
    refine wpAnyH_take (i := 18) (oi := { dst := some 2, op := Go.Op.assign (Go.Operand.tmp 45), type := 4, pos := "law.go:64", after := #[{ on := 17, ground := Go.Ground.data }, { on := 16, ground := Go.Ground.chain }, { on := 0, ground := Go.Ground.phase }, { on := 1, ground := Go.Ground.phase }, { on := 2, ground := Go.Ground.phase }, { on := 3, ground := Go.Ground.phase }, { on := 4, ground := Go.Ground.phase }, { on := 5, ground := Go.Ground.phase }, { on := 6, ground := Go.Ground.phase }, { on := 7, ground := Go.Ground.phase }, { on := 8, ground := Go.Ground.phase }, { on := 9, ground := Go.Ground.phase }, { on := 10, ground := Go.Ground.phase }, { on := 11, ground := Go.Ground.phase }, { on := 12, ground := Go.Ground.phase }, { on := 13, ground := Go.Ground.phase }, { on := 14, ground := Go.Ground.phase }, { on := 15, ground := Go.Ground.phase }, { on := 16, ground := Go.Ground.phase }, { on := 17, ground := Go.Ground.phase }], guard := none }) (v := ?vrb18) rfl (by kernel_rfl) (by kernel_rfl) (by kernel_rfl) (fun _ _ _ h => h) (Or.inl ⟨by rfl, ?hyrb18⟩) (by assumption) ?restrb18
    case hyrb18 => (intro w hSw; (try dsimp only at hSw); go_simp; try with_reducible rfl)
    try simp only [Act.put, List.setIfInBounds_toArray, List.set_cons_zero, List.set_cons_succ]
    refine wpAnyH_done (by kernel_rfl) ?_ _
    go_wp2_with fail
    go_ret
    exact ⟨rfl, C4.out.low.trans (R9.out.mono C4.out.low.size)⟩
end Go.Proofs.Ytlgeepjlnjlgdaa
