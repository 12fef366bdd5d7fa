/- The program's parser: Read. -/
import Derived.Test.YtibcpdmeigdgpaaGreatDoorKOrd
import Derived.Test.YtibcpdmeigdgpaaGreatDoorKGt
import Derived.Test.YtibcpdmeigdgpaaGreatDoorKGw
import Derived.Deep.RegionHeld3
import Derived.Deep.RegionLaw
import Derived.Deep.LoopGhost
import Derived.Deep.AppendLies
namespace Go.Proofs.YtibcpdmeigdgpaaGreatDoor
open Go.RowKit
def ReadPQ (s : ByteArray) (B : Nat) (w' : World) (v : Value) (p er : Int) : Prop := match readN s with
 | .ok ss => p = 0 ∧ er = 0 ∧ ∃ xs, w'.ownsRow B 42 5 v ss.length xs ∧ SenR w' B xs ss ∧ ss.length ≤ 1000
 | .error (q, e) => v = .slice none 0 0 ∧ p = q ∧ er = e ∧ er ≠ 0
theorem readPQ_bad {s : ByteArray} {B : Nat} {w' : World} {q e : Int} (h : readN s = .error (q, e)) (he : e ≠ 0) : ReadPQ s B w' (.slice none 0 0) q e := by
 unfold ReadPQ; rw [h]; exact ⟨rfl, rfl, rfl, he⟩
theorem readPQ_ok {s : ByteArray} {B : Nat} {w' : World} {v : Value} {ss : Sens} {xs : List Value} (h : readN s = .ok ss) (h1 : w'.ownsRow B 42 5 v ss.length xs) (h2 : SenR w' B xs ss) (h3 : ss.length ≤ 1000) : ReadPQ s B w' v 0 0 := by
 unfold ReadPQ; rw [h]; exact ⟨rfl, rfl, xs, h1, h2, h3⟩
structure By (w wr : World) (B : Nat) (v : Value) : Prop where
 b0 : wr.heap[B]? = some (.cells #[v] 31 (0, 0))
 b1 : wr.heap[B + 1]? = some (.cells #[.int .i64 0] 3 (0, 0))
 b2 : wr.heap[B + 2]? = some (.cells #[.int .i64 0] 23 (0, 0))
 low : Below B w wr
 lt : B + 2 < wr.heap.size
theorem By.cells {w wr : World} {B : Nat} {v : Value} (h : By w wr B v) : wr.cell? ⟨B, 0, none⟩ = some v ∧ wr.frozen? ⟨B, 0, none⟩ = false ∧ wr.cell? ⟨B + 1, 0, none⟩ = some (.int .i64 0) ∧ wr.frozen? ⟨B + 1, 0, none⟩ = false ∧ wr.cell? ⟨B + 2, 0, none⟩ = some (.int .i64 0) ∧ wr.frozen? ⟨B + 2, 0, none⟩ = false :=
 ⟨cell_of_row _ _ 0 _ _ _ h.b0, by simp [World.frozen?, h.b0], cell_of_row _ _ 0 _ _ _ h.b1, by simp [World.frozen?, h.b1], cell_of_row _ _ 0 _ _ _ h.b2, by simp [World.frozen?, h.b2]⟩
theorem by_new (w : World) : By w (((w.alloc (Obj.cells #[.slice none 0 0] 31)).alloc (Obj.cells #[.int .i64 0] 3)).alloc (Obj.cells #[.int .i64 0] 23)) w.heap.size (.slice none 0 0) := by
 have step : ∀ (u : World) (o o' : Obj) (g : Nat), u.heap[g]? = some o' → (u.alloc o).heap[g]? = some o' := fun u o o' g h => (Below.heap_alloc _ _ _ (heap_lt h)).trans h
 have nw : ∀ (u : World) (o : Obj) (g : Nat), g = u.heap.size → (u.alloc o).heap[g]? = some o := fun u o g h => heap_at u o h
 exact ⟨step _ _ _ _ (step _ _ _ _ (nw _ _ _ rfl)), step _ _ _ _ (nw _ _ _ (by simp)), nw _ _ _ (by simp), (((Below.refl _ _).alloc (Nat.le_refl _) _).alloc (by simp) _).alloc (by simp; omega) _, by simp⟩
theorem By.on {w wr w' : World} {B : Nat} {v : Value} (h : By w wr B v) (hb : Below (B + 3) wr w') : By w w' B v :=
 ⟨(hb.block B (by omega)).trans h.b0, (hb.block (B + 1) (by omega)).trans h.b1, (hb.block (B + 2) (by omega)).trans h.b2, h.low.trans (hb.mono (by omega)), Nat.lt_of_lt_of_le h.lt hb.size⟩
theorem By.grown {w wr w' : World} {B n : Nat} {v o : Value} {xs : List Value} (h : By w wr B v) (hg : wr.grownBy w' o.ownBlock) (ho : wr.ownsRow B 42 5 o n xs) : By w w' B v := by
 have hs := h.lt
 exact ⟨(hg.block _ (heap_lt h.b0) (own_ne5 ho h.b0 (by decide))).trans h.b0, (hg.block _ (heap_lt h.b1) (own_ne5 ho h.b1 (by decide))).trans h.b1, (hg.block _ (heap_lt h.b2) (own_ne5 ho h.b2 (by decide))).trans h.b2,
  h.low.grown hg (by omega) fun k hk => (ho.lt k hk).1, Nat.lt_of_lt_of_le hs hg.size⟩
theorem By.set {w wr : World} {B : Nat} {v : Value} (h : By w wr B v) (u : Value) : By w (wr.setCell ⟨B, 0, none⟩ u) B u :=
 ⟨by simpa using blk_set h.b0 0 u, (Below.heap_setCell _ _ _ _ (by show B + 1 ≠ B; omega)).trans h.b1, (Below.heap_setCell _ _ _ _ (by show B + 2 ≠ B; omega)).trans h.b2, h.low.setCell (p := ⟨B, 0, none⟩) (Nat.le_refl _) u, by rw [World.size_setCell]; exact h.lt⟩
theorem RdI.below {c : Rdc} {w wr w' : World} {j : Nat} {o : Value} {xs : List Value} {ss : List (T × List ByteArray)} (h : RdI c w wr j o xs ss) (hb : Below wr.heap.size wr w') : RdI c w w' j o xs ss := by
 obtain ⟨⟨ns, hp⟩, hl, ho, hs, hf⟩ := h
 exact ⟨⟨ns, hp.below hb⟩, hl.trans (hb.mono hl.size), own_below ho hb, hs.keep fun b cs t f hh _ => (hb.block b (heap_lt hh)).trans hh, hf⟩
theorem By.zero {w wr : World} {B : Nat} {v : Value} (h : By w wr B v) : By w (wr.setCell ⟨B + 1 + 1, 0, none⟩ (.int .i64 0)) B v :=
 ⟨(Below.heap_setCell _ _ _ _ (by show B ≠ B + 1 + 1; omega)).trans h.b0, (Below.heap_setCell _ _ _ _ (by show B + 1 ≠ B + 1 + 1; omega)).trans h.b1, by simpa using blk_set h.b2 0 (.int .i64 0), h.low.setCell (p := ⟨B + 1 + 1, 0, none⟩) (by show B ≤ B + 1 + 1; omega) _, by rw [World.size_setCell]; exact h.lt⟩
structure RL (c : Rdc) (w : World) (s : ByteArray) (wr : World) (j : Nat) (o : Value) (xs : List Value) (ss : Sens) : Prop where
 bx : By w wr w.heap.size o
 rd : RdI c w wr j o xs ss
 res : ∃ f, c.tn ≤ j + f ∧ readN s = readC c.tk c.s.size f j ss
theorem RL.drew {c : Rdc} {w wr : World} {s : ByteArray} {j : Nat} {o : Value} {xs : List Value} {ss : Sens} (h : RL c w s wr j o xs ss) : RL c w s wr.drew j o xs ss :=
 ⟨h.bx.on ((Below.refl _ _).drew), h.rd.below ((Below.refl _ _).drew), h.res⟩
theorem RdI.cells {c : Rdc} {w wr : World} {j : Nat} {o : Value} {xs : List Value} {ss : Sens} (h : RdI c w wr j o xs ss) : ∃ A m, wr.cell? ⟨c.R, 1, none⟩ = some (.slice A (c.tn - j) m) ∧ j ≤ c.tn ∧ c.tn ≤ 1000 := by
 obtain ⟨⟨ns, ht, hf, lv, nv, nn, hr⟩, _⟩ := h
 obtain ⟨A, m, rfl, _⟩ := hr.lok
 exact ⟨A, m, hr.cells.2.1, hr.up, ht.few⟩
theorem RdI.ev {c : Rdc} {w wr : World} {j : Nat} {o : Value} {xs : List Value} {ss : Sens} (h : RdI c w wr j o xs ss) (h1 : TabX w) (h2 : ErrX w) (h3 : TableX w) (hlo : w.heap.size ≤ c.B) (hN : c.N = 0) : Ev c wr := by
 obtain ⟨⟨ns, hp⟩, hl, _⟩ := h
 exact ⟨by rw [hN]; exact hp.base, w, h1, h2, h3, hlo, hl⟩
set_option maxHeartbeats 8000000 in
set_option maxRecDepth 100000 in
theorem pread_any (s : ByteArray) (w : World) {mx : Int} (hmx : w.cell? ⟨2, 0, none⟩ = some (.int .i64 mx)) (htab : TabX w) (herr : ErrX w) (hops : TableX w) : Calls Tryz.prog 8 #[.string s] w fun e w' =>
 (∃ (v : Value) (p er : Int), e = .returned (.tuple #[v, .int .i64 p, .int .i64 er]) ∧ ReadPQ s w.heap.size w' v p er) ∧ Below w.heap.size w w' := by
 obtain ⟨sen, hi1, hi2, hi3, hi4⟩ := info_parts Tryz.info_sen
 have hmf : ∀ (fn : Fn) (first cap : Array Value) (w : World), (Instr.makeFunc fn first cap).run Tryz.prog w = .ok (.func fn first cap) w := fun _ _ _ _ => rfl
 have hw0 := World.block_lt_of_cell? w _ hmx
 dsimp only at hw0
 have HTB := Lib.hid htab
 have HER := Lib.hid herr
 have HOP := Lib.hid hops
 obtain ⟨W0, hW0⟩ : ∃ W0, W0 = (((w.alloc (Obj.cells #[.slice none 0 0] 31)).alloc (Obj.cells #[.int .i64 0] 3)).alloc (Obj.cells #[.int .i64 0] 23)) := ⟨_, rfl⟩
 have BY := Lib.hid (show By w W0 w.heap.size (.slice none 0 0) by rw [hW0]; exact by_new w)
 have hsz : W0.heap.size = w.heap.size + 3 := by rw [hW0]; simp
 have CT := Lib.hid (ptokens_any s W0 ((BY.out.low.cell (p := ⟨2, 0, none⟩) hw0).trans hmx))
 have HW0 := Lib.hid hW0
 clear hmx htab herr hops hW0
 go_enter_defers Tryz.func8, Tryz.ntmps8
 go_wp2_with fail
 rw [← HW0.out]
 refine CT.out.mono ?_
 rintro e w1 ⟨⟨v, p, er, rfl, hq⟩, hb1⟩
 rw [hsz] at hq hb1
 have B1 := Lib.hid (BY.out.on hb1)
 obtain ⟨c0, g0, c1, g1, c2, g2⟩ := B1.out.cells
 clear CT BY
 cases hl : lexN s with
 | bad q e =>
  have HN := Lib.hid (show readN s = .error ((q : Int), e) from readN_bad hl)
  unfold TokQ at hq
  rw [hl] at hq
  obtain ⟨rfl, rfl, rfl, hne⟩ := hq
  clear hl hb1
  have hne' : (er != 0) = true := by simpa using hne
  have HNE := Lib.hid hne
  clear hne
  have hB2 := B1.out.lt
  go_wp2_with fail
  go_region
  all_goals
   have HE := Lib.hid ((((((B1.out.low.setCell (p := ⟨w.heap.size + 1 + 1, 0, none⟩) (by simp; omega) (.int .i64 er)).setCell (p := ⟨w.heap.size, 0, none⟩) (Nat.le_refl _) (.slice none 0 0)).setCell (p := ⟨w.heap.size + 1, 0, none⟩) (by simp) (.int .i64 (q : Int))).setCell (p := ⟨w.heap.size + 1 + 1, 0, none⟩) (by simp; omega) (.int .i64 er))).drew)
   have HB := Lib.hid (fun w'' : World => readPQ_bad (B := w.heap.size) (w' := w'') HN.out HNE.out)
   go_wp2_with fail
   simp (config := { zetaDelta := true }) [bodyPostD, Leaves, results, Tryz.results8, go_sem, World.cell?_setCell_other, World.cell?_setCell_same, c0, c1, c2]
   exact ⟨⟨_, _, _, ⟨rfl, rfl, rfl⟩, HB.out _⟩, HE.out⟩
 | ok l =>
  unfold TokQ at hq
  rw [hl] at hq
  obtain ⟨rfl, rfl, hown0, hlen, hs, hok⟩ := hq
  have B1s := Lib.hid (B1.out.zero)
  have hown := own_keep (w' := w1.setCell ⟨w.heap.size + 1 + 1, 0, none⟩ (.int .i64 0)) hown0 fun g hg => Below.heap_setCell _ _ _ _ (by have := (hown0.lt g hg).1; show g ≠ w.heap.size + 1 + 1; omega)
  obtain ⟨A, tc, rfl, hc, hA, hcm, hx⟩ := own_open hown
  clear hown0
  have HL := Lib.hid hl
  have hb1s := hb1.size
  have hB1s := B1.out.lt
  obtain ⟨c, hcc⟩ : ∃ c : Rdc, c = ⟨w1.heap.size, w1.heap.size, s, A, l.length, tc, l, 0⟩ := ⟨_, rfl⟩
  have hss : (w1.setCell ⟨w.heap.size + 1 + 1, 0, none⟩ (.int .i64 0)).heap.size = w1.heap.size := World.size_setCell _ _ _
  have AL := (Below.refl w1.heap.size (w1.setCell ⟨w.heap.size + 1 + 1, 0, none⟩ (.int .i64 0))).alloc (Nat.le_of_eq hss.symm) (Obj.cells #[.string s, .slice A l.length tc, .slice none 0 0] 70)
  have R0 := Lib.hid (show RL c w s ((w1.setCell ⟨w.heap.size + 1 + 1, 0, none⟩ (.int .i64 0)).alloc (Obj.cells #[.string s, .slice A l.length tc, .slice none 0 0] 70)) 0 (.slice none 0 0) [] [] by
   subst hcc
   refine ⟨B1s.out.on (AL.mono (by omega)), ⟨⟨[], ⟨rfl, hlen, hs, hok, hc, hA, Nat.le_refl _, lexN_names HL.out, fun h0 => ?_⟩, fun x hx => lex_fine HL.out x hx, .slice A l.length tc, .slice none 0 0, 0, heap_at _ _ (by simp), ⟨A, tc, rfl, hc, fun h0 g hg => by rw [Nat.zero_mul]; exact hg⟩, World.ownsRow_nil _ _ _ _, Nat.zero_le _, Nat.le_refl _⟩, B1s.out.low.trans (AL.mono (by omega)), World.ownsRow_nil _ _ _ _, fun k x hx => by simp at hx, Nat.le_refl _⟩, l.length, Nat.le_of_eq (Nat.zero_add _).symm, readN_ok HL.out⟩
   obtain ⟨g, cur, hg, _, hh, hcur⟩ := hx h0
   exact ⟨g, cur, hg, (AL.block g (by have := heap_lt hh; omega)).trans hh, fun j hj => hcur j hj⟩)
  have hR : w1.heap.size = c.R := by rw [hcc]
  have hlo : w.heap.size ≤ c.B := by rw [hcc]; show w.heap.size ≤ w1.heap.size; omega
  have hB3 : w.heap.size + 3 ≤ c.B := by rw [hcc]; show w.heap.size + 3 ≤ w1.heap.size; omega
  have hN : c.N = 0 := by rw [hcc]
  have hcn : c.tn = l.length := by rw [hcc]
  have htl : c.tk.length = c.tn := by rw [hcc]
  have HTL := Lib.hid htl
  clear hcc hx hown hok hb1 AL hl htl
  go_wp2_with fail
  generalize ((w1.setCell ⟨w.heap.size + 1 + 1, 0, none⟩ (.int .i64 0)).alloc (Obj.cells #[.string s, .slice A l.length tc, .slice none 0 0] 70)) = w2 at *
  rw [hR] at *
  go_loopg [] c.tn (fun g wr => ∃ (j : Nat) (o : Value) (xs : List Value) (ss : Sens), j + g = c.tn ∧ RL c w s wr j o xs ss)
  case atStart => exact ⟨0, _, _, _, Nat.zero_add _, R0.out⟩
  case round =>
   clear R0
   obtain ⟨j, o, xs, ss, hjg, hrl⟩ := hrel
   have R := Lib.hid hrl
   obtain ⟨A3, m3, y1, hup, htn⟩ := hrl.rd.cells
   obtain ⟨c0, g0, c1, g1, c2, g2⟩ := hrl.bx.cells
   have hfw := hrl.rd.few
   have hlt := hrl.bx.lt
   clear hrl
   by_cases hj : j < c.tn
   ·have hj' : (0 : Int) < ((c.tn - j : Nat) : Int) := by omega
    have HJ := Lib.hid (show j < c.tk.length by rw [HTL.out]; exact hj)
    obtain ⟨f, hf⟩ : ∃ f, c.tn ≤ j + (f + 1) ∧ readN s = readC c.tk c.s.size (f + 1) j ss := by
     obtain ⟨f, h1, h2⟩ := R.out.res
     obtain ⟨f, rfl⟩ : ∃ k, f = k + 1 := ⟨f - 1, by omega⟩
     exact ⟨f, h1, h2⟩
    have HF := Lib.hid hf
    clear hf
    have RD := Lib.hid R.out.drew
    obtain ⟨ns0, hpd⟩ := RD.out.rd.rd
    have CS := Lib.hid (psent_any _ _ _ hpd (RD.out.rd.ev HTB.out HER.out HOP.out hlo hN))
    clear hpd
    obtain ⟨RS, hRS⟩ : ∃ RS, sentP c.tk c.s.size j = RS := ⟨_, rfl⟩
    cases RS with
    | error pk =>
     obtain ⟨p, k⟩ := pk
     have HRS := Lib.hid hRS
     clear hRS
     go_wp2_with fail
     refine wp_region_held_drew (S := fun _ => True) (by kernel_rfl) trivial (fun _ => ?_)
     refine wpAnyH_ready (rs := [0, 1]) (by kernel_rfl) (by simp) ?_
     refine rdH (fun K hK => ?q1) (AllReadyH.cons (o := { dst := some 30, op := .move (.tmp 7), type := 68, pos := "read.go:246", after := #[], guard := none }) rfl (fun K hK => ?q2) AllReadyH.nil)
     case q1 =>
      go_simp
      refine hK.out _ _ trivial (fun _ => ?_)
      clear hK K
      try simp only [Act.put, sA, sB, sC]
      refine wpAnyH_ready (rs := [1]) (by kernel_rfl) (by simp) ?_
      refine rdH (fun K hK => ?q3) AllReadyH.nil
      case q3 =>
       go_simp
       refine hK.out _ _ trivial (fun _ => ?_)
       clear hK K
       try simp only [Act.put, sA, sB, sC]
       refine wpAnyH_ready (rs := [2]) (by kernel_rfl) (by simp) ?_
       refine rdH (fun K hK => ?q4) AllReadyH.nil
       case q4 =>
        go_simp
        refine CS.out.mono ?_
        rintro e w2 hq
        obtain ⟨f2, rfl⟩ := hq.err HRS.out
        have B2 := Lib.hid (RD.out.bx.on (f2.low.mono hB3))
        have HN := Lib.hid (show readN s = .error (p, k) by rw [HF.out.2, sent_er HJ.out HRS.out])
        clear hq f2
        obtain ⟨c0, g0, c1, g1, c2, g2⟩ := B2.out.cells
        show Leaves _ _ _ _ _ _ _
        refine leaves_cons (f := 19) (args := #[.pointer (some ⟨w.heap.size, 0, none⟩), .pointer (some ⟨w.heap.size + 1, 0, none⟩), .pointer (some ⟨w.heap.size + 1 + 1, 0, none⟩)]) (by simp) (by simp [go_sem]) ?_
        refine (rcatch_panicking w.heap.size _ _ _ p k [] _ c0 g0 c1 g1 c2 g2 (by have := B2.out.lt; omega)).mono ?_
        rintro e u' w'' ⟨rfl, rfl, h4, p0, p1, p2⟩
        have HE := Lib.hid (B2.out.low.trans h4)
        have HTQ := Lib.hid (readPQ_bad (B := w.heap.size) (w' := w'') HN.out (sentP_ne HRS.out))
        simp [Leaves, settle, results, Tryz.results8, go_sem, p0, p1, p2]
        exact ⟨⟨_, _, _, ⟨rfl, rfl, rfl⟩, HTQ.out⟩, HE.out⟩
     case q2 =>
      go_simp
      refine hK.out _ _ trivial (fun _ => ?_)
      clear hK K
      try simp only [Act.put, sA, sB, sC]
      refine wpAnyH_ready (rs := [0, 2]) (by kernel_rfl) (by simp) ?_
      refine rdH (fun K hK => ?q5) (AllReadyH.cons (o := { dst := some 31, op := .call { callee := .value (.func 20), args := #[.tmp 30], argTypes := #[68] }, type := 42, pos := "read.go:246", after := #[{ on := 1, ground := .data }], guard := none }) rfl (fun K hK => ?q6) AllReadyH.nil)
      case q5 =>
       go_simp
       refine hK.out _ _ trivial (fun _ => ?_)
       clear hK K
       try simp only [Act.put, sA, sB, sC]
       refine wpAnyH_ready (rs := [2]) (by kernel_rfl) (by simp) ?_
       refine rdH (fun K hK => ?q7) AllReadyH.nil
       case q7 =>
        go_simp
        refine CS.out.mono ?_
        rintro e w2 hq
        obtain ⟨f2, rfl⟩ := hq.err HRS.out
        have B2 := Lib.hid (RD.out.bx.on (f2.low.mono hB3))
        have HN := Lib.hid (show readN s = .error (p, k) by rw [HF.out.2, sent_er HJ.out HRS.out])
        clear hq f2
        obtain ⟨c0, g0, c1, g1, c2, g2⟩ := B2.out.cells
        show Leaves _ _ _ _ _ _ _
        refine leaves_cons (f := 19) (args := #[.pointer (some ⟨w.heap.size, 0, none⟩), .pointer (some ⟨w.heap.size + 1, 0, none⟩), .pointer (some ⟨w.heap.size + 1 + 1, 0, none⟩)]) (by simp) (by simp [go_sem]) ?_
        refine (rcatch_panicking w.heap.size _ _ _ p k [] _ c0 g0 c1 g1 c2 g2 (by have := B2.out.lt; omega)).mono ?_
        rintro e u' w'' ⟨rfl, rfl, h4, p0, p1, p2⟩
        have HE := Lib.hid (B2.out.low.trans h4)
        have HTQ := Lib.hid (readPQ_bad (B := w.heap.size) (w' := w'') HN.out (sentP_ne HRS.out))
        simp [Leaves, settle, results, Tryz.results8, go_sem, p0, p1, p2]
        exact ⟨⟨_, _, _, ⟨rfl, rfl, rfl⟩, HTQ.out⟩, HE.out⟩
      case q6 =>
       go_simp
       refine CS.out.mono ?_
       rintro e w2 hq
       obtain ⟨f2, rfl⟩ := hq.err HRS.out
       have B2 := Lib.hid (RD.out.bx.on (f2.low.mono hB3))
       have HN := Lib.hid (show readN s = .error (p, k) by rw [HF.out.2, sent_er HJ.out HRS.out])
       clear hq f2
       obtain ⟨c0, g0, c1, g1, c2, g2⟩ := B2.out.cells
       show Leaves _ _ _ _ _ _ _
       refine leaves_cons (f := 19) (args := #[.pointer (some ⟨w.heap.size, 0, none⟩), .pointer (some ⟨w.heap.size + 1, 0, none⟩), .pointer (some ⟨w.heap.size + 1 + 1, 0, none⟩)]) (by simp) (by simp [go_sem]) ?_
       refine (rcatch_panicking w.heap.size _ _ _ p k [] _ c0 g0 c1 g1 c2 g2 (by have := B2.out.lt; omega)).mono ?_
       rintro e u' w'' ⟨rfl, rfl, h4, p0, p1, p2⟩
       have HE := Lib.hid (B2.out.low.trans h4)
       have HTQ := Lib.hid (readPQ_bad (B := w.heap.size) (w' := w'') HN.out (sentP_ne HRS.out))
       simp [Leaves, settle, results, Tryz.results8, go_sem, p0, p1, p2]
       exact ⟨⟨_, _, _, ⟨rfl, rfl, rfl⟩, HTQ.out⟩, HE.out⟩
    | ok yy =>
     obtain ⟨x, j2, ns2⟩ := yy
     have HRS := Lib.hid hRS
     clear hRS
     go_wp2_with fail
     refine wp_region_noPanic ?_
     refine wp_region_held_drew (S := fun _ => True) (by kernel_rfl) trivial (fun _ => ?_)
     refine wpAnyH_ready (rs := [0, 1]) (by kernel_rfl) (by simp) ?_
     refine rdH (fun K hK => ?q8) (AllReadyH.cons (o := { dst := some 30, op := .move (.tmp 7), type := 68, pos := "read.go:246", after := #[], guard := none }) rfl (fun K hK => ?q9) AllReadyH.nil)
     case q8 =>
      go_simp
      refine hK.out _ _ trivial (fun _ => ?_)
      clear hK K
      try simp only [Act.put, sA, sB, sC]
      refine wpAnyH_ready (rs := [1]) (by kernel_rfl) (by simp) ?_
      refine rdH (fun K hK => ?q10) AllReadyH.nil
      case q10 =>
       go_simp
       refine hK.out _ _ trivial (fun _ => ?_)
       clear hK K
       try simp only [Act.put, sA, sB, sC]
       refine wpAnyH_ready (rs := [2]) (by kernel_rfl) (by simp) ?_
       refine rdH (fun K hK => ?q11) AllReadyH.nil
       case q11 =>
        go_simp
        refine CS.out.mono ?_
        rintro e w2 hq
        obtain ⟨f2, v2, rfl, h2, hj2, k0, k1, k2, A2, m2, cc2, NA, nc, rfl, ht2, hg2, hn2, ho2⟩ := hq.ok HRS.out
        have hj3 : j + 1 ≤ j2 := by omega
        have B2 := Lib.hid (RD.out.bx.on (f2.low.mono hB3))
        have O2 := Lib.hid (RD.out.rd.row f2).1
        have hs2 := f2.size
        clear hq
        obtain ⟨c0, g0, c1, g1, c2, g2⟩ := B2.out.cells
        have hl2 : w.heap.size < w2.heap.size := by have := B2.out.lt; omega
        go_wp2_with fail
        refine hK.out _ _ trivial (fun _ => ?_)
        clear hK K
        try simp only [Act.put, sA, sB, sC]
        refine wpAnyH_ready (rs := [3]) (by kernel_rfl) (by simp) ?_
        refine rdH (fun K hK => ?q12) AllReadyH.nil
        case q12 =>
         go_simp
         refine hK.out _ _ trivial (fun _ => ?_)
         clear hK K
         try simp only [Act.put, sA, sB, sC]
         refine wpAnyH_ready (rs := [4]) (by kernel_rfl) (by simp) ?_
         refine rdH (fun K hK => ?q13) AllReadyH.nil
         case q13 =>
          refine step_append_lies _ rfl _ _ _ rfl w.heap.size 42 sen (.agg #[.int .i64 0, .int .i64 0, .string ⟨#[]⟩, .slice none 0 0, .slice none 0 0]) 5 80 Tryz.underlying31 hi1 hi2 hi3 hi4 rfl (by omega) _ ss.length xs rfl (own_below O2.out ((Below.refl _ _).alloc (Nat.le_refl _) _)) ⟨w2.heap.size, 0, none⟩ 1 1 [.int .i64 k0, .int .i64 k1, .string k2, .slice A2 m2 cc2, .slice NA x.2.length nc] rfl rfl (World.news_of_block (heap_alloc_new _ _)) ?sm (by omega) (by unfold maxLen; omega) (by omega) (by have := B2.out.lt; simp; omega) _ rfl ?_
          case sm => (intro u hu; simp only [List.mem_cons, List.not_mem_nil, or_false] at hu; rcases hu with rfl | rfl | rfl | rfl | rfl <;> rfl)
          intro g9 cap9 w9 hown9 hg9 hat9 hlt9
          have B9 := Lib.hid ((B2.out.on ((Below.refl _ _).alloc (by have := B2.out.lt; omega) _)).grown hg9 (own_below O2.out ((Below.refl _ _).alloc (Nat.le_refl _) _)))
          have R9 := Lib.hid (RdI.push RD.out.rd f2 hN hlo h2 ht2 hg2 hn2 (sent_ns HRS.out) ho2 ((Below.refl _ _).alloc (Nat.le_refl _) _) hown9 hg9)
          have O9 := Lib.hid hown9
          clear hown9 hg9 hat9
          obtain ⟨c0, g0, c1, g1, c2, g2⟩ := B9.out.cells
          refine hK.out _ _ trivial (fun _ => ?_)
          clear hK K
          try simp only [Act.put, sA, sB, sC]
          refine wpAnyH_ready (rs := [5]) (by kernel_rfl) (by simp) ?_
          refine rdH (fun K hK => ?q14) AllReadyH.nil
          case q14 =>
           go_simp
           refine hK.out _ _ trivial (fun _ => ?_)
           clear hK K
           try simp only [Act.put, sA, sB, sC]
           refine wpAnyH_done (by kernel_rfl) ?_ _
           refine NoPanic.normal ?_
           have hgj : c.tn - j2 < gk := by have := hj3; omega
           have RN := Lib.hid (show RL c w s (w9.setCell ⟨w.heap.size, 0, none⟩ (.slice (some ⟨g9, 0, none⟩) (ss.length + 1) cap9)) j2 (.slice (some ⟨g9, 0, none⟩) (ss.length + 1) cap9) (xs ++ [.int .i64 k0, .int .i64 k1, .string k2, .slice A2 m2 cc2, .slice NA x.2.length nc]) (ss ++ [x]) from
            ⟨B9.out.set _, R9.out.set B9.out.b0 (by decide) (Nat.le_refl _) _ _, f, by have := HF.out.1; omega, by rw [HF.out.2]; exact sent_ok HJ.out HRS.out⟩)
           go_wp2_with fail
           go_roundg (c.tn - j2)
           case measure => exact hgj
           case rel => exact ⟨j2, _, _, _, by have := RN.out.rd.cells; obtain ⟨_, _, _, h9, _⟩ := this; omega, RN.out⟩
     case q9 =>
      go_simp
      refine hK.out _ _ trivial (fun _ => ?_)
      clear hK K
      try simp only [Act.put, sA, sB, sC]
      refine wpAnyH_ready (rs := [0, 2]) (by kernel_rfl) (by simp) ?_
      refine rdH (fun K hK => ?q15) (AllReadyH.cons (o := { dst := some 31, op := .call { callee := .value (.func 20), args := #[.tmp 30], argTypes := #[68] }, type := 42, pos := "read.go:246", after := #[{ on := 1, ground := .data }], guard := none }) rfl (fun K hK => ?q16) AllReadyH.nil)
      case q15 =>
       go_simp
       refine hK.out _ _ trivial (fun _ => ?_)
       clear hK K
       try simp only [Act.put, sA, sB, sC]
       refine wpAnyH_ready (rs := [2]) (by kernel_rfl) (by simp) ?_
       refine rdH (fun K hK => ?q17) AllReadyH.nil
       case q17 =>
        go_simp
        refine CS.out.mono ?_
        rintro e w2 hq
        obtain ⟨f2, v2, rfl, h2, hj2, k0, k1, k2, A2, m2, cc2, NA, nc, rfl, ht2, hg2, hn2, ho2⟩ := hq.ok HRS.out
        have hj3 : j + 1 ≤ j2 := by omega
        have B2 := Lib.hid (RD.out.bx.on (f2.low.mono hB3))
        have O2 := Lib.hid (RD.out.rd.row f2).1
        have hs2 := f2.size
        clear hq
        obtain ⟨c0, g0, c1, g1, c2, g2⟩ := B2.out.cells
        have hl2 : w.heap.size < w2.heap.size := by have := B2.out.lt; omega
        go_wp2_with fail
        refine hK.out _ _ trivial (fun _ => ?_)
        clear hK K
        try simp only [Act.put, sA, sB, sC]
        refine wpAnyH_ready (rs := [3]) (by kernel_rfl) (by simp) ?_
        refine rdH (fun K hK => ?q18) AllReadyH.nil
        case q18 =>
         go_simp
         refine hK.out _ _ trivial (fun _ => ?_)
         clear hK K
         try simp only [Act.put, sA, sB, sC]
         refine wpAnyH_ready (rs := [4]) (by kernel_rfl) (by simp) ?_
         refine rdH (fun K hK => ?q19) AllReadyH.nil
         case q19 =>
          refine step_append_lies _ rfl _ _ _ rfl w.heap.size 42 sen (.agg #[.int .i64 0, .int .i64 0, .string ⟨#[]⟩, .slice none 0 0, .slice none 0 0]) 5 80 Tryz.underlying31 hi1 hi2 hi3 hi4 rfl (by omega) _ ss.length xs rfl (own_below O2.out ((Below.refl _ _).alloc (Nat.le_refl _) _)) ⟨w2.heap.size, 0, none⟩ 1 1 [.int .i64 k0, .int .i64 k1, .string k2, .slice A2 m2 cc2, .slice NA x.2.length nc] rfl rfl (World.news_of_block (heap_alloc_new _ _)) ?sm (by omega) (by unfold maxLen; omega) (by omega) (by have := B2.out.lt; simp; omega) _ rfl ?_
          case sm => (intro u hu; simp only [List.mem_cons, List.not_mem_nil, or_false] at hu; rcases hu with rfl | rfl | rfl | rfl | rfl <;> rfl)
          intro g9 cap9 w9 hown9 hg9 hat9 hlt9
          have B9 := Lib.hid ((B2.out.on ((Below.refl _ _).alloc (by have := B2.out.lt; omega) _)).grown hg9 (own_below O2.out ((Below.refl _ _).alloc (Nat.le_refl _) _)))
          have R9 := Lib.hid (RdI.push RD.out.rd f2 hN hlo h2 ht2 hg2 hn2 (sent_ns HRS.out) ho2 ((Below.refl _ _).alloc (Nat.le_refl _) _) hown9 hg9)
          have O9 := Lib.hid hown9
          clear hown9 hg9 hat9
          obtain ⟨c0, g0, c1, g1, c2, g2⟩ := B9.out.cells
          refine hK.out _ _ trivial (fun _ => ?_)
          clear hK K
          try simp only [Act.put, sA, sB, sC]
          refine wpAnyH_ready (rs := [5]) (by kernel_rfl) (by simp) ?_
          refine rdH (fun K hK => ?q20) AllReadyH.nil
          case q20 =>
           go_simp
           refine hK.out _ _ trivial (fun _ => ?_)
           clear hK K
           try simp only [Act.put, sA, sB, sC]
           refine wpAnyH_done (by kernel_rfl) ?_ _
           refine NoPanic.normal ?_
           have hgj : c.tn - j2 < gk := by have := hj3; omega
           have RN := Lib.hid (show RL c w s (w9.setCell ⟨w.heap.size, 0, none⟩ (.slice (some ⟨g9, 0, none⟩) (ss.length + 1) cap9)) j2 (.slice (some ⟨g9, 0, none⟩) (ss.length + 1) cap9) (xs ++ [.int .i64 k0, .int .i64 k1, .string k2, .slice A2 m2 cc2, .slice NA x.2.length nc]) (ss ++ [x]) from
            ⟨B9.out.set _, R9.out.set B9.out.b0 (by decide) (Nat.le_refl _) _ _, f, by have := HF.out.1; omega, by rw [HF.out.2]; exact sent_ok HJ.out HRS.out⟩)
           go_wp2_with fail
           go_roundg (c.tn - j2)
           case measure => exact hgj
           case rel => exact ⟨j2, _, _, _, by have := RN.out.rd.cells; obtain ⟨_, _, _, h9, _⟩ := this; omega, RN.out⟩
      case q16 =>
       go_simp
       refine CS.out.mono ?_
       rintro e w2 hq
       obtain ⟨f2, v2, rfl, h2, hj2, k0, k1, k2, A2, m2, cc2, NA, nc, rfl, ht2, hg2, hn2, ho2⟩ := hq.ok HRS.out
       have hj3 : j + 1 ≤ j2 := by omega
       have B2 := Lib.hid (RD.out.bx.on (f2.low.mono hB3))
       have O2 := Lib.hid (RD.out.rd.row f2).1
       have hs2 := f2.size
       clear hq
       obtain ⟨c0, g0, c1, g1, c2, g2⟩ := B2.out.cells
       have hl2 : w.heap.size < w2.heap.size := by have := B2.out.lt; omega
       go_wp2_with fail
       refine hK.out _ _ trivial (fun _ => ?_)
       clear hK K
       try simp only [Act.put, sA, sB, sC]
       refine wpAnyH_ready (rs := [0, 3]) (by kernel_rfl) (by simp) ?_
       refine rdH (fun K hK => ?q21) (AllReadyH.cons (o := { dst := some 32, op := .buildSlice 31 1 #[(0, .tmp 31)], type := 31, pos := "read.go:246", after := #[{ on := 2, ground := .data }], guard := none }) rfl (fun K hK => ?q22) AllReadyH.nil)
       case q21 =>
        go_simp
        refine hK.out _ _ trivial (fun _ => ?_)
        clear hK K
        try simp only [Act.put, sA, sB, sC]
        refine wpAnyH_ready (rs := [3]) (by kernel_rfl) (by simp) ?_
        refine rdH (fun K hK => ?q23) AllReadyH.nil
        case q23 =>
         go_simp
         refine hK.out _ _ trivial (fun _ => ?_)
         clear hK K
         try simp only [Act.put, sA, sB, sC]
         refine wpAnyH_ready (rs := [4]) (by kernel_rfl) (by simp) ?_
         refine rdH (fun K hK => ?q24) AllReadyH.nil
         case q24 =>
          refine step_append_lies _ rfl _ _ _ rfl w.heap.size 42 sen (.agg #[.int .i64 0, .int .i64 0, .string ⟨#[]⟩, .slice none 0 0, .slice none 0 0]) 5 80 Tryz.underlying31 hi1 hi2 hi3 hi4 rfl (by omega) _ ss.length xs rfl (own_below O2.out ((Below.refl _ _).alloc (Nat.le_refl _) _)) ⟨w2.heap.size, 0, none⟩ 1 1 [.int .i64 k0, .int .i64 k1, .string k2, .slice A2 m2 cc2, .slice NA x.2.length nc] rfl rfl (World.news_of_block (heap_alloc_new _ _)) ?sm (by omega) (by unfold maxLen; omega) (by omega) (by have := B2.out.lt; simp; omega) _ rfl ?_
          case sm => (intro u hu; simp only [List.mem_cons, List.not_mem_nil, or_false] at hu; rcases hu with rfl | rfl | rfl | rfl | rfl <;> rfl)
          intro g9 cap9 w9 hown9 hg9 hat9 hlt9
          have B9 := Lib.hid ((B2.out.on ((Below.refl _ _).alloc (by have := B2.out.lt; omega) _)).grown hg9 (own_below O2.out ((Below.refl _ _).alloc (Nat.le_refl _) _)))
          have R9 := Lib.hid (RdI.push RD.out.rd f2 hN hlo h2 ht2 hg2 hn2 (sent_ns HRS.out) ho2 ((Below.refl _ _).alloc (Nat.le_refl _) _) hown9 hg9)
          have O9 := Lib.hid hown9
          clear hown9 hg9 hat9
          obtain ⟨c0, g0, c1, g1, c2, g2⟩ := B9.out.cells
          refine hK.out _ _ trivial (fun _ => ?_)
          clear hK K
          try simp only [Act.put, sA, sB, sC]
          refine wpAnyH_ready (rs := [5]) (by kernel_rfl) (by simp) ?_
          refine rdH (fun K hK => ?q25) AllReadyH.nil
          case q25 =>
           go_simp
           refine hK.out _ _ trivial (fun _ => ?_)
           clear hK K
           try simp only [Act.put, sA, sB, sC]
           refine wpAnyH_done (by kernel_rfl) ?_ _
           refine NoPanic.normal ?_
           have hgj : c.tn - j2 < gk := by have := hj3; omega
           have RN := Lib.hid (show RL c w s (w9.setCell ⟨w.heap.size, 0, none⟩ (.slice (some ⟨g9, 0, none⟩) (ss.length + 1) cap9)) j2 (.slice (some ⟨g9, 0, none⟩) (ss.length + 1) cap9) (xs ++ [.int .i64 k0, .int .i64 k1, .string k2, .slice A2 m2 cc2, .slice NA x.2.length nc]) (ss ++ [x]) from
            ⟨B9.out.set _, R9.out.set B9.out.b0 (by decide) (Nat.le_refl _) _ _, f, by have := HF.out.1; omega, by rw [HF.out.2]; exact sent_ok HJ.out HRS.out⟩)
           go_wp2_with fail
           go_roundg (c.tn - j2)
           case measure => exact hgj
           case rel => exact ⟨j2, _, _, _, by have := RN.out.rd.cells; obtain ⟨_, _, _, h9, _⟩ := this; omega, RN.out⟩
       case q22 =>
        go_simp
        refine hK.out _ _ trivial (fun _ => ?_)
        clear hK K
        try simp only [Act.put, sA, sB, sC]
        refine wpAnyH_ready (rs := [0]) (by kernel_rfl) (by simp) ?_
        refine rdH (fun K hK => ?q26) AllReadyH.nil
        case q26 =>
         go_simp
         refine hK.out _ _ trivial (fun _ => ?_)
         clear hK K
         try simp only [Act.put, sA, sB, sC]
         refine wpAnyH_ready (rs := [4]) (by kernel_rfl) (by simp) ?_
         refine rdH (fun K hK => ?q27) AllReadyH.nil
         case q27 =>
          refine step_append_lies _ rfl _ _ _ rfl w.heap.size 42 sen (.agg #[.int .i64 0, .int .i64 0, .string ⟨#[]⟩, .slice none 0 0, .slice none 0 0]) 5 80 Tryz.underlying31 hi1 hi2 hi3 hi4 rfl (by omega) _ ss.length xs rfl (own_below O2.out ((Below.refl _ _).alloc (Nat.le_refl _) _)) ⟨w2.heap.size, 0, none⟩ 1 1 [.int .i64 k0, .int .i64 k1, .string k2, .slice A2 m2 cc2, .slice NA x.2.length nc] rfl rfl (World.news_of_block (heap_alloc_new _ _)) ?sm (by omega) (by unfold maxLen; omega) (by omega) (by have := B2.out.lt; simp; omega) _ rfl ?_
          case sm => (intro u hu; simp only [List.mem_cons, List.not_mem_nil, or_false] at hu; rcases hu with rfl | rfl | rfl | rfl | rfl <;> rfl)
          intro g9 cap9 w9 hown9 hg9 hat9 hlt9
          have B9 := Lib.hid ((B2.out.on ((Below.refl _ _).alloc (by have := B2.out.lt; omega) _)).grown hg9 (own_below O2.out ((Below.refl _ _).alloc (Nat.le_refl _) _)))
          have R9 := Lib.hid (RdI.push RD.out.rd f2 hN hlo h2 ht2 hg2 hn2 (sent_ns HRS.out) ho2 ((Below.refl _ _).alloc (Nat.le_refl _) _) hown9 hg9)
          have O9 := Lib.hid hown9
          clear hown9 hg9 hat9
          obtain ⟨c0, g0, c1, g1, c2, g2⟩ := B9.out.cells
          refine hK.out _ _ trivial (fun _ => ?_)
          clear hK K
          try simp only [Act.put, sA, sB, sC]
          refine wpAnyH_ready (rs := [5]) (by kernel_rfl) (by simp) ?_
          refine rdH (fun K hK => ?q28) AllReadyH.nil
          case q28 =>
           go_simp
           refine hK.out _ _ trivial (fun _ => ?_)
           clear hK K
           try simp only [Act.put, sA, sB, sC]
           refine wpAnyH_done (by kernel_rfl) ?_ _
           refine NoPanic.normal ?_
           have hgj : c.tn - j2 < gk := by have := hj3; omega
           have RN := Lib.hid (show RL c w s (w9.setCell ⟨w.heap.size, 0, none⟩ (.slice (some ⟨g9, 0, none⟩) (ss.length + 1) cap9)) j2 (.slice (some ⟨g9, 0, none⟩) (ss.length + 1) cap9) (xs ++ [.int .i64 k0, .int .i64 k1, .string k2, .slice A2 m2 cc2, .slice NA x.2.length nc]) (ss ++ [x]) from
            ⟨B9.out.set _, R9.out.set B9.out.b0 (by decide) (Nat.le_refl _) _ _, f, by have := HF.out.1; omega, by rw [HF.out.2]; exact sent_ok HJ.out HRS.out⟩)
           go_wp2_with fail
           go_roundg (c.tn - j2)
           case measure => exact hgj
           case rel => exact ⟨j2, _, _, _, by have := RN.out.rd.cells; obtain ⟨_, _, _, h9, _⟩ := this; omega, RN.out⟩
   ·have hj' : ¬ (0 : Int) < ((c.tn - j : Nat) : Int) := by omega
    have HQ := Lib.hid (show readN s = .ok ss by
     obtain ⟨f, h1, h2⟩ := R.out.res
     rw [h2, readC_end (by rw [HTL.out]; exact hj)])
    obtain ⟨A4, m4, rfl, _⟩ := own_open R.out.rd.own
    have hB2 := R.out.bx.lt
    have hB0 : w.heap.size < wr.heap.size := by omega
    have hB1 : w.heap.size + 1 < wr.heap.size := by omega
    have hB4 : w.heap.size + 1 + 1 < wr.heap.size := by omega
    go_wp2_with fail
    show Leaves _ _ _ _ _ _ _
    refine leaves_cons (f := 19) (args := #[.pointer (some ⟨w.heap.size, 0, none⟩), .pointer (some ⟨w.heap.size + 1, 0, none⟩), .pointer (some ⟨w.heap.size + 1 + 1, 0, none⟩)]) (by simp) (by simp [go_sem]) ?_
    refine (rcatch_idle _ _ _ _).mono ?_
    rintro e u' w'' ⟨rfl, rfl, rfl⟩
    have HE := Lib.hid (((R.out.bx.low.setCell (p := ⟨w.heap.size, 0, none⟩) (Nat.le_refl _) (.slice A4 ss.length m4)).setCell (p := ⟨w.heap.size + 1, 0, none⟩) (by simp) (.int .i64 0)).setCell (p := ⟨w.heap.size + 1 + 1, 0, none⟩) (by simp; omega) (.int .i64 0))
    have hk : ∀ g (cs : Array Value) (t : TypeId) (m : Nat × Nat), wr.heap[g]? = some (Obj.cells cs t m) → t ≠ 31 → t ≠ 3 → t ≠ 23 → (((wr.setCell ⟨w.heap.size, 0, none⟩ (.slice A4 ss.length m4)).setCell ⟨w.heap.size + 1, 0, none⟩ (.int .i64 0)).setCell ⟨w.heap.size + 1 + 1, 0, none⟩ (.int .i64 0)).heap[g]? = some (Obj.cells cs t m) := fun g cs t m hg h1 h2 h3 => by
     have n0 : g ≠ w.heap.size := by
      rintro rfl
      rw [R.out.bx.b0] at hg
      injection hg with hg
      injection hg with _ hg
      exact h1 hg.symm
     have n1 : g ≠ w.heap.size + 1 := by
      rintro rfl
      rw [R.out.bx.b1] at hg
      injection hg with hg
      injection hg with _ hg
      exact h2 hg.symm
     have n2 : g ≠ w.heap.size + 1 + 1 := by
      rintro rfl
      rw [R.out.bx.b2] at hg
      injection hg with hg
      injection hg with _ hg
      exact h3 hg.symm
     exact ((Below.heap_setCell _ _ _ _ n2).trans ((Below.heap_setCell _ _ _ _ n1).trans (Below.heap_setCell _ _ _ _ n0))).trans hg
    have HT := Lib.hid (readPQ_ok (B := w.heap.size) HQ.out (own_keep R.out.rd.own fun g hg => by
     obtain ⟨cs, m, hh⟩ := Go.Lib.ownsRow_kind R.out.rd.own g hg
     exact (hk g cs _ m hh (by decide) (by decide) (by decide)).trans hh.symm) (R.out.rd.sr.keep fun b cs t f hb ht => hk b cs t f hb (by rcases ht with rfl | rfl <;> decide) (by rcases ht with rfl | rfl <;> decide) (by rcases ht with rfl | rfl <;> decide)) (by omega))
    clear hk
    simp [Leaves, settle, results, Tryz.results8, go_sem, World.cell?_setCell_other, World.cell?_setCell_same, c0, c1, c2]
    exact ⟨⟨_, _, _, ⟨rfl, rfl, rfl⟩, HT.out⟩, HE.out⟩
end Go.Proofs.YtibcpdmeigdgpaaGreatDoor
