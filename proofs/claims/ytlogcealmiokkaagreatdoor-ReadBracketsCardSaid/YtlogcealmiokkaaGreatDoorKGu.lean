/- What a row's list gives the walks of reading: the table of operators, listed as data. The program's parser: Read. The program's parser: One. The walk through coneylaw05.same, of terms that are the same. What the laws of reading lean on: both One, where the plain reader's answer is known. A row of bytes that a law is given, opened. -/
import Derived.Test.YtlogcealmiokkaaGreatDoorKRq4
import Derived.ProofKit
import Derived.OpenShut
import Derived.ShutString
import Derived.LaidLaws
import Derived.ChangeArms
import Derived.Test.YtlogcealmiokkaaGreatDoorKGt
import Derived.Test.YtlogcealmiokkaaGreatDoorKGw
import Derived.Deep.RegionHeld3
import Derived.Deep.RegionLaw
import Derived.Deep.LoopGhost
import Derived.Deep.AppendLies
import Derived.Test.YtlogcealmiokkaaGreatDoorKRd14
import Derived.Test.YtlogcealmiokkaaGreatDoorKRd6
namespace Go.Proofs.YtlogcealmiokkaaGreatDoor
open Go Go.ChangeShapes Go.WideShapes Go.RowKit
end Go.Proofs.YtlogcealmiokkaaGreatDoor
namespace Go.Proofs.YtlogcealmiokkaaGreatDoor
open Go.RowKit
def ReadPQ (s : ByteArray) (B : Nat) (w' : World) (v : Value) (p er : Int) : Prop := match readN s with
 | .ok ss => p = 0 ∧ er = 0 ∧ ∃ xs, w'.ownsRow B 34 5 v ss.length xs ∧ SenR w' B xs ss ∧ ss.length ≤ 1000
 | .error (q, e) => v = .slice none 0 0 ∧ p = q ∧ er = e ∧ er ≠ 0
theorem readPQ_bad {s : ByteArray} {B : Nat} {w' : World} {q e : Int} (h : readN s = .error (q, e)) (he : e ≠ 0) : ReadPQ s B w' (.slice none 0 0) q e := by
 unfold ReadPQ; rw [h]; exact ⟨rfl, rfl, rfl, he⟩
theorem readPQ_ok {s : ByteArray} {B : Nat} {w' : World} {v : Value} {ss : Sens} {xs : List Value} (h : readN s = .ok ss) (h1 : w'.ownsRow B 34 5 v ss.length xs) (h2 : SenR w' B xs ss) (h3 : ss.length ≤ 1000) : ReadPQ s B w' v 0 0 := by
 unfold ReadPQ; rw [h]; exact ⟨rfl, rfl, xs, h1, h2, h3⟩
structure By (w wr : World) (B : Nat) (v : Value) : Prop where
 b0 : wr.heap[B]? = some (.cells #[v] 22 (0, 0))
 b1 : wr.heap[B + 1]? = some (.cells #[.int .i64 0] 3 (0, 0))
 b2 : wr.heap[B + 2]? = some (.cells #[.int .i64 0] 23 (0, 0))
 low : Below B w wr
 lt : B + 2 < wr.heap.size
theorem By.cells {w wr : World} {B : Nat} {v : Value} (h : By w wr B v) : wr.cell? ⟨B, 0, none⟩ = some v ∧ wr.frozen? ⟨B, 0, none⟩ = false ∧ wr.cell? ⟨B + 1, 0, none⟩ = some (.int .i64 0) ∧ wr.frozen? ⟨B + 1, 0, none⟩ = false ∧ wr.cell? ⟨B + 2, 0, none⟩ = some (.int .i64 0) ∧ wr.frozen? ⟨B + 2, 0, none⟩ = false :=
 ⟨cell_of_row _ _ 0 _ _ _ h.b0, by simp [World.frozen?, h.b0], cell_of_row _ _ 0 _ _ _ h.b1, by simp [World.frozen?, h.b1], cell_of_row _ _ 0 _ _ _ h.b2, by simp [World.frozen?, h.b2]⟩
theorem by_new (w : World) : By w (((w.alloc (Obj.cells #[.slice none 0 0] 22)).alloc (Obj.cells #[.int .i64 0] 3)).alloc (Obj.cells #[.int .i64 0] 23)) w.heap.size (.slice none 0 0) := by
 have step : ∀ (u : World) (o o' : Obj) (g : Nat), u.heap[g]? = some o' → (u.alloc o).heap[g]? = some o' := fun u o o' g h => (Below.heap_alloc _ _ _ (heap_lt h)).trans h
 have nw : ∀ (u : World) (o : Obj) (g : Nat), g = u.heap.size → (u.alloc o).heap[g]? = some o := fun u o g h => heap_at u o h
 exact ⟨step _ _ _ _ (step _ _ _ _ (nw _ _ _ rfl)), step _ _ _ _ (nw _ _ _ (by simp)), nw _ _ _ (by simp), (((Below.refl _ _).alloc (Nat.le_refl _) _).alloc (by simp) _).alloc (by simp; omega) _, by simp⟩
theorem By.on {w wr w' : World} {B : Nat} {v : Value} (h : By w wr B v) (hb : Below (B + 3) wr w') : By w w' B v :=
 ⟨(hb.block B (by omega)).trans h.b0, (hb.block (B + 1) (by omega)).trans h.b1, (hb.block (B + 2) (by omega)).trans h.b2, h.low.trans (hb.mono (by omega)), Nat.lt_of_lt_of_le h.lt hb.size⟩
theorem By.grown {w wr w' : World} {B n : Nat} {v o : Value} {xs : List Value} (h : By w wr B v) (hg : wr.grownBy w' o.ownBlock) (ho : wr.ownsRow B 34 5 o n xs) : By w w' B v := by
 have hs := h.lt
 exact ⟨(hg.block _ (heap_lt h.b0) (own_ne5 ho h.b0 (by decide))).trans h.b0, (hg.block _ (heap_lt h.b1) (own_ne5 ho h.b1 (by decide))).trans h.b1, (hg.block _ (heap_lt h.b2) (own_ne5 ho h.b2 (by decide))).trans h.b2,
  h.low.grown hg (by omega) fun k hk => (ho.lt k hk).1, Nat.lt_of_lt_of_le hs hg.size⟩
theorem By.set {w wr : World} {B : Nat} {v : Value} (h : By w wr B v) (u : Value) : By w (wr.setCell ⟨B, 0, none⟩ u) B u :=
 ⟨by simpa using blk_set h.b0 0 u, (Below.heap_setCell _ _ _ _ (by show B + 1 ≠ B; omega)).trans h.b1, (Below.heap_setCell _ _ _ _ (by show B + 2 ≠ B; omega)).trans h.b2, h.low.setCell (p := ⟨B, 0, none⟩) (Nat.le_refl _) u, by rw [World.size_setCell]; exact h.lt⟩
theorem RdI.below {c : Rdc} {w wr w' : World} {j : Nat} {o : Value} {xs : List Value} {ss : List (T × List ByteArray)} (h : RdI c w wr j o xs ss) (hb : Below wr.heap.size wr w') : RdI c w w' j o xs ss := by
 obtain ⟨⟨ns, hp⟩, hl, ho, hs, hf⟩ := h
 exact ⟨⟨ns, hp.below hb⟩, hl.trans (hb.mono hl.size), own_below ho hb, hs.keep fun b cs t f hh _ => (hb.block b (heap_lt hh)).trans hh, hf⟩
theorem By.zero {w wr : World} {B : Nat} {v : Value} (h : By w wr B v) : By w (wr.setCell ⟨B + 1 + 1, 0, none⟩ (.int .i64 0)) B v :=
 ⟨(Below.heap_setCell _ _ _ _ (by show B ≠ B + 1 + 1; omega)).trans h.b0, (Below.heap_setCell _ _ _ _ (by show B + 1 ≠ B + 1 + 1; omega)).trans h.b1, by simpa using blk_set h.b2 0 (.int .i64 0), h.low.setCell (p := ⟨B + 1 + 1, 0, none⟩) (by show B ≤ B + 1 + 1; omega) _, by rw [World.size_setCell]; exact h.lt⟩
structure RL (c : Rdc) (w : World) (s : ByteArray) (wr : World) (j : Nat) (o : Value) (xs : List Value) (ss : Sens) : Prop where
 bx : By w wr w.heap.size o
 rd : RdI c w wr j o xs ss
 res : ∃ f, c.tn ≤ j + f ∧ readN s = readC c.tk c.s.size f j ss
theorem RL.drew {c : Rdc} {w wr : World} {s : ByteArray} {j : Nat} {o : Value} {xs : List Value} {ss : Sens} (h : RL c w s wr j o xs ss) : RL c w s wr.drew j o xs ss :=
 ⟨h.bx.on ((Below.refl _ _).drew), h.rd.below ((Below.refl _ _).drew), h.res⟩
theorem RdI.cells {c : Rdc} {w wr : World} {j : Nat} {o : Value} {xs : List Value} {ss : Sens} (h : RdI c w wr j o xs ss) : ∃ A m, wr.cell? ⟨c.R, 1, none⟩ = some (.slice A (c.tn - j) m) ∧ j ≤ c.tn ∧ c.tn ≤ 1000 := by
 obtain ⟨⟨ns, ht, hf, lv, nv, nn, hr⟩, _⟩ := h
 obtain ⟨A, m, rfl, _⟩ := hr.lok
 exact ⟨A, m, hr.cells.2.1, hr.up, ht.few⟩
theorem RdI.ev {c : Rdc} {w wr : World} {j : Nat} {o : Value} {xs : List Value} {ss : Sens} (h : RdI c w wr j o xs ss) (h1 : TabX w) (h2 : ErrX w) (h3 : TableX w) (hlo : w.heap.size ≤ c.B) (hN : c.N = 0) : Ev c wr := by
 obtain ⟨⟨ns, hp⟩, hl, _⟩ := h
 exact ⟨by rw [hN]; exact hp.base, w, h1, h2, h3, hlo, hl⟩
set_option maxHeartbeats 8000000 in
set_option maxRecDepth 100000 in
theorem pread_any (s : ByteArray) (w : World) {mx : Int} (hmx : w.cell? ⟨1, 0, none⟩ = some (.int .i64 mx)) (htab : TabX w) (herr : ErrX w) (hops : TableX w) : Calls Tryz.prog 9 #[.string s] w fun e w' =>
 (∃ (v : Value) (p er : Int), e = .returned (.tuple #[v, .int .i64 p, .int .i64 er]) ∧ ReadPQ s w.heap.size w' v p er) ∧ Below w.heap.size w w' := by
 obtain ⟨sen, hi1, hi2, hi3, hi4⟩ := info_parts Tryz.info_sen
 have hmf : ∀ (fn : Fn) (first cap : Array Value) (w : World), (Instr.makeFunc fn first cap).run Tryz.prog w = .ok (.func fn first cap) w := fun _ _ _ _ => rfl
 have hw0 := World.block_lt_of_cell? w _ hmx
 dsimp only at hw0
 have HTB := Lib.hid htab
 have HER := Lib.hid herr
 have HOP := Lib.hid hops
 obtain ⟨W0, hW0⟩ : ∃ W0, W0 = (((w.alloc (Obj.cells #[.slice none 0 0] 22)).alloc (Obj.cells #[.int .i64 0] 3)).alloc (Obj.cells #[.int .i64 0] 23)) := ⟨_, rfl⟩
 have BY := Lib.hid (show By w W0 w.heap.size (.slice none 0 0) by rw [hW0]; exact by_new w)
 have hsz : W0.heap.size = w.heap.size + 3 := by rw [hW0]; simp
 have CT := Lib.hid (ptokens_any s W0 ((BY.out.low.cell (p := ⟨1, 0, none⟩) hw0).trans hmx))
 have HW0 := Lib.hid hW0
 clear hmx htab herr hops hW0
 go_enter_defers Tryz.func9, Tryz.ntmps9
 go_wp2_with fail
 rw [← HW0.out]
 refine CT.out.mono ?_
 rintro e w1 ⟨⟨v, p, er, rfl, hq⟩, hb1⟩
 rw [hsz] at hq hb1
 have B1 := Lib.hid (BY.out.on hb1)
 obtain ⟨c0, g0, c1, g1, c2, g2⟩ := B1.out.cells
 clear CT BY
 cases hl : lexN s with
 | bad q e =>
  have HN := Lib.hid (show readN s = .error ((q : Int), e) from readN_bad hl)
  unfold TokQ at hq
  rw [hl] at hq
  obtain ⟨rfl, rfl, rfl, hne⟩ := hq
  clear hl hb1
  have hne' : (er != 0) = true := by simpa using hne
  have HNE := Lib.hid hne
  clear hne
  have hB2 := B1.out.lt
  go_wp2_with fail
  go_region
  all_goals
   have HE := Lib.hid ((((((B1.out.low.setCell (p := ⟨w.heap.size + 1 + 1, 0, none⟩) (by simp; omega) (.int .i64 er)).setCell (p := ⟨w.heap.size, 0, none⟩) (Nat.le_refl _) (.slice none 0 0)).setCell (p := ⟨w.heap.size + 1, 0, none⟩) (by simp) (.int .i64 (q : Int))).setCell (p := ⟨w.heap.size + 1 + 1, 0, none⟩) (by simp; omega) (.int .i64 er))).drew)
   have HB := Lib.hid (fun w'' : World => readPQ_bad (B := w.heap.size) (w' := w'') HN.out HNE.out)
   go_wp2_with fail
   simp (config := { zetaDelta := true }) [bodyPostD, Leaves, results, Tryz.results9, go_sem, World.cell?_setCell_other, World.cell?_setCell_same, c0, c1, c2]
   exact ⟨⟨_, _, _, ⟨rfl, rfl, rfl⟩, HB.out _⟩, HE.out⟩
 | ok l =>
  unfold TokQ at hq
  rw [hl] at hq
  obtain ⟨rfl, rfl, hown0, hlen, hs, hok⟩ := hq
  have B1s := Lib.hid (B1.out.zero)
  have hown := own_keep (w' := w1.setCell ⟨w.heap.size + 1 + 1, 0, none⟩ (.int .i64 0)) hown0 fun g hg => Below.heap_setCell _ _ _ _ (by have := (hown0.lt g hg).1; show g ≠ w.heap.size + 1 + 1; omega)
  obtain ⟨A, tc, rfl, hc, hA, hcm, hx⟩ := own_open hown
  clear hown0
  have HL := Lib.hid hl
  have hb1s := hb1.size
  have hB1s := B1.out.lt
  obtain ⟨c, hcc⟩ : ∃ c : Rdc, c = ⟨w1.heap.size, w1.heap.size, s, A, l.length, tc, l, 0⟩ := ⟨_, rfl⟩
  have hss : (w1.setCell ⟨w.heap.size + 1 + 1, 0, none⟩ (.int .i64 0)).heap.size = w1.heap.size := World.size_setCell _ _ _
  have AL := (Below.refl w1.heap.size (w1.setCell ⟨w.heap.size + 1 + 1, 0, none⟩ (.int .i64 0))).alloc (Nat.le_of_eq hss.symm) (Obj.cells #[.string s, .slice A l.length tc, .slice none 0 0] 53)
  have R0 := Lib.hid (show RL c w s ((w1.setCell ⟨w.heap.size + 1 + 1, 0, none⟩ (.int .i64 0)).alloc (Obj.cells #[.string s, .slice A l.length tc, .slice none 0 0] 53)) 0 (.slice none 0 0) [] [] by
   subst hcc
   refine ⟨B1s.out.on (AL.mono (by omega)), ⟨⟨[], ⟨rfl, hlen, hs, hok, hc, hA, Nat.le_refl _, lexN_names HL.out, fun h0 => ?_⟩, fun x hx => lex_fine HL.out x hx, .slice A l.length tc, .slice none 0 0, 0, heap_at _ _ (by simp), ⟨A, tc, rfl, hc, fun h0 g hg => by rw [Nat.zero_mul]; exact hg⟩, World.ownsRow_nil _ _ _ _, Nat.zero_le _, Nat.le_refl _⟩, B1s.out.low.trans (AL.mono (by omega)), World.ownsRow_nil _ _ _ _, fun k x hx => by simp at hx, Nat.le_refl _⟩, l.length, Nat.le_of_eq (Nat.zero_add _).symm, readN_ok HL.out⟩
   obtain ⟨g, cur, hg, _, hh, hcur⟩ := hx h0
   exact ⟨g, cur, hg, (AL.block g (by have := heap_lt hh; omega)).trans hh, fun j hj => hcur j hj⟩)
  have hR : w1.heap.size = c.R := by rw [hcc]
  have hlo : w.heap.size ≤ c.B := by rw [hcc]; show w.heap.size ≤ w1.heap.size; omega
  have hB3 : w.heap.size + 3 ≤ c.B := by rw [hcc]; show w.heap.size + 3 ≤ w1.heap.size; omega
  have hN : c.N = 0 := by rw [hcc]
  have hcn : c.tn = l.length := by rw [hcc]
  have htl : c.tk.length = c.tn := by rw [hcc]
  have HTL := Lib.hid htl
  clear hcc hx hown hok hb1 AL hl htl
  go_wp2_with fail
  generalize ((w1.setCell ⟨w.heap.size + 1 + 1, 0, none⟩ (.int .i64 0)).alloc (Obj.cells #[.string s, .slice A l.length tc, .slice none 0 0] 53)) = w2 at *
  rw [hR] at *
  go_loopg [] c.tn (fun g wr => ∃ (j : Nat) (o : Value) (xs : List Value) (ss : Sens), j + g = c.tn ∧ RL c w s wr j o xs ss)
  case atStart => exact ⟨0, _, _, _, Nat.zero_add _, R0.out⟩
  case round =>
   clear R0
   obtain ⟨j, o, xs, ss, hjg, hrl⟩ := hrel
   have R := Lib.hid hrl
   obtain ⟨A3, m3, y1, hup, htn⟩ := hrl.rd.cells
   obtain ⟨c0, g0, c1, g1, c2, g2⟩ := hrl.bx.cells
   have hfw := hrl.rd.few
   have hlt := hrl.bx.lt
   clear hrl
   by_cases hj : j < c.tn
   ·have hj' : (0 : Int) < ((c.tn - j : Nat) : Int) := by omega
    have HJ := Lib.hid (show j < c.tk.length by rw [HTL.out]; exact hj)
    obtain ⟨f, hf⟩ : ∃ f, c.tn ≤ j + (f + 1) ∧ readN s = readC c.tk c.s.size (f + 1) j ss := by
     obtain ⟨f, h1, h2⟩ := R.out.res
     obtain ⟨f, rfl⟩ : ∃ k, f = k + 1 := ⟨f - 1, by omega⟩
     exact ⟨f, h1, h2⟩
    have HF := Lib.hid hf
    clear hf
    have RD := Lib.hid R.out.drew
    obtain ⟨ns0, hpd⟩ := RD.out.rd.rd
    have CS := Lib.hid (psent_any _ _ _ hpd (RD.out.rd.ev HTB.out HER.out HOP.out hlo hN))
    clear hpd
    obtain ⟨RS, hRS⟩ : ∃ RS, sentP c.tk c.s.size j = RS := ⟨_, rfl⟩
    cases RS with
    | error pk =>
     obtain ⟨p, k⟩ := pk
     have HRS := Lib.hid hRS
     clear hRS
     go_wp2_with fail
     refine wp_region_held_drew (S := fun _ => True) (by kernel_rfl) trivial (fun _ => ?_)
     refine wpAnyH_ready (rs := [0, 1]) (by kernel_rfl) (by simp) ?_
     refine AllReadyH.cons (o := { dst := some 29, op := .load 22 (.tmp 2), type := 22, pos := "read.go:246", after := #[], guard := none }) rfl (fun K hK => ?q1) (AllReadyH.cons (o := { dst := some 30, op := .move (.tmp 7), type := 51, pos := "read.go:246", after := #[], guard := none }) rfl (fun K hK => ?q2) AllReadyH.nil)
     case q1 =>
      go_simp
      refine hK.out _ _ trivial (fun _ => ?_)
      clear hK K
      try simp only [Act.put, List.setIfInBounds_toArray, List.set_cons_zero, List.set_cons_succ]
      refine wpAnyH_ready (rs := [1]) (by kernel_rfl) (by simp) ?_
      refine AllReadyH.cons (o := { dst := some 30, op := .move (.tmp 7), type := 51, pos := "read.go:246", after := #[], guard := none }) rfl (fun K hK => ?q3) AllReadyH.nil
      case q3 =>
       go_simp
       refine hK.out _ _ trivial (fun _ => ?_)
       clear hK K
       try simp only [Act.put, List.setIfInBounds_toArray, List.set_cons_zero, List.set_cons_succ]
       refine wpAnyH_ready (rs := [2]) (by kernel_rfl) (by simp) ?_
       refine AllReadyH.cons (o := { dst := some 31, op := .call { callee := .value (.func 20), args := #[.tmp 30], argTypes := #[51] }, type := 34, pos := "read.go:246", after := #[{ on := 1, ground := .data }], guard := none }) rfl (fun K hK => ?q4) AllReadyH.nil
       case q4 =>
        go_simp
        refine CS.out.mono ?_
        rintro e w2 hq
        obtain ⟨f2, rfl⟩ := hq.err HRS.out
        have B2 := Lib.hid (RD.out.bx.on (f2.low.mono hB3))
        have HN := Lib.hid (show readN s = .error (p, k) by rw [HF.out.2, sent_er HJ.out HRS.out])
        clear hq f2
        obtain ⟨c0, g0, c1, g1, c2, g2⟩ := B2.out.cells
        show Leaves _ _ _ _ _ _ _
        refine leaves_cons (f := 19) (args := #[.pointer (some ⟨w.heap.size, 0, none⟩), .pointer (some ⟨w.heap.size + 1, 0, none⟩), .pointer (some ⟨w.heap.size + 1 + 1, 0, none⟩)]) (by simp) (by simp [go_sem]) ?_
        refine (rcatch_panicking w.heap.size _ _ _ p k [] _ c0 g0 c1 g1 c2 g2 (by have := B2.out.lt; omega)).mono ?_
        rintro e u' w'' ⟨rfl, rfl, h4, p0, p1, p2⟩
        have HE := Lib.hid (B2.out.low.trans h4)
        have HTQ := Lib.hid (readPQ_bad (B := w.heap.size) (w' := w'') HN.out (sentP_ne HRS.out))
        simp [Leaves, settle, results, Tryz.results9, go_sem, p0, p1, p2]
        exact ⟨⟨_, _, _, ⟨rfl, rfl, rfl⟩, HTQ.out⟩, HE.out⟩
     case q2 =>
      go_simp
      refine hK.out _ _ trivial (fun _ => ?_)
      clear hK K
      try simp only [Act.put, List.setIfInBounds_toArray, List.set_cons_zero, List.set_cons_succ]
      refine wpAnyH_ready (rs := [0, 2]) (by kernel_rfl) (by simp) ?_
      refine AllReadyH.cons (o := { dst := some 29, op := .load 22 (.tmp 2), type := 22, pos := "read.go:246", after := #[], guard := none }) rfl (fun K hK => ?q5) (AllReadyH.cons (o := { dst := some 31, op := .call { callee := .value (.func 20), args := #[.tmp 30], argTypes := #[51] }, type := 34, pos := "read.go:246", after := #[{ on := 1, ground := .data }], guard := none }) rfl (fun K hK => ?q6) AllReadyH.nil)
      case q5 =>
       go_simp
       refine hK.out _ _ trivial (fun _ => ?_)
       clear hK K
       try simp only [Act.put, List.setIfInBounds_toArray, List.set_cons_zero, List.set_cons_succ]
       refine wpAnyH_ready (rs := [2]) (by kernel_rfl) (by simp) ?_
       refine AllReadyH.cons (o := { dst := some 31, op := .call { callee := .value (.func 20), args := #[.tmp 30], argTypes := #[51] }, type := 34, pos := "read.go:246", after := #[{ on := 1, ground := .data }], guard := none }) rfl (fun K hK => ?q7) AllReadyH.nil
       case q7 =>
        go_simp
        refine CS.out.mono ?_
        rintro e w2 hq
        obtain ⟨f2, rfl⟩ := hq.err HRS.out
        have B2 := Lib.hid (RD.out.bx.on (f2.low.mono hB3))
        have HN := Lib.hid (show readN s = .error (p, k) by rw [HF.out.2, sent_er HJ.out HRS.out])
        clear hq f2
        obtain ⟨c0, g0, c1, g1, c2, g2⟩ := B2.out.cells
        show Leaves _ _ _ _ _ _ _
        refine leaves_cons (f := 19) (args := #[.pointer (some ⟨w.heap.size, 0, none⟩), .pointer (some ⟨w.heap.size + 1, 0, none⟩), .pointer (some ⟨w.heap.size + 1 + 1, 0, none⟩)]) (by simp) (by simp [go_sem]) ?_
        refine (rcatch_panicking w.heap.size _ _ _ p k [] _ c0 g0 c1 g1 c2 g2 (by have := B2.out.lt; omega)).mono ?_
        rintro e u' w'' ⟨rfl, rfl, h4, p0, p1, p2⟩
        have HE := Lib.hid (B2.out.low.trans h4)
        have HTQ := Lib.hid (readPQ_bad (B := w.heap.size) (w' := w'') HN.out (sentP_ne HRS.out))
        simp [Leaves, settle, results, Tryz.results9, go_sem, p0, p1, p2]
        exact ⟨⟨_, _, _, ⟨rfl, rfl, rfl⟩, HTQ.out⟩, HE.out⟩
      case q6 =>
       go_simp
       refine CS.out.mono ?_
       rintro e w2 hq
       obtain ⟨f2, rfl⟩ := hq.err HRS.out
       have B2 := Lib.hid (RD.out.bx.on (f2.low.mono hB3))
       have HN := Lib.hid (show readN s = .error (p, k) by rw [HF.out.2, sent_er HJ.out HRS.out])
       clear hq f2
       obtain ⟨c0, g0, c1, g1, c2, g2⟩ := B2.out.cells
       show Leaves _ _ _ _ _ _ _
       refine leaves_cons (f := 19) (args := #[.pointer (some ⟨w.heap.size, 0, none⟩), .pointer (some ⟨w.heap.size + 1, 0, none⟩), .pointer (some ⟨w.heap.size + 1 + 1, 0, none⟩)]) (by simp) (by simp [go_sem]) ?_
       refine (rcatch_panicking w.heap.size _ _ _ p k [] _ c0 g0 c1 g1 c2 g2 (by have := B2.out.lt; omega)).mono ?_
       rintro e u' w'' ⟨rfl, rfl, h4, p0, p1, p2⟩
       have HE := Lib.hid (B2.out.low.trans h4)
       have HTQ := Lib.hid (readPQ_bad (B := w.heap.size) (w' := w'') HN.out (sentP_ne HRS.out))
       simp [Leaves, settle, results, Tryz.results9, go_sem, p0, p1, p2]
       exact ⟨⟨_, _, _, ⟨rfl, rfl, rfl⟩, HTQ.out⟩, HE.out⟩
    | ok yy =>
     obtain ⟨x, j2, ns2⟩ := yy
     have HRS := Lib.hid hRS
     clear hRS
     go_wp2_with fail
     refine wp_region_noPanic ?_
     refine wp_region_held_drew (S := fun _ => True) (by kernel_rfl) trivial (fun _ => ?_)
     refine wpAnyH_ready (rs := [0, 1]) (by kernel_rfl) (by simp) ?_
     refine AllReadyH.cons (o := { dst := some 29, op := .load 22 (.tmp 2), type := 22, pos := "read.go:246", after := #[], guard := none }) rfl (fun K hK => ?q8) (AllReadyH.cons (o := { dst := some 30, op := .move (.tmp 7), type := 51, pos := "read.go:246", after := #[], guard := none }) rfl (fun K hK => ?q9) AllReadyH.nil)
     case q8 =>
      go_simp
      refine hK.out _ _ trivial (fun _ => ?_)
      clear hK K
      try simp only [Act.put, List.setIfInBounds_toArray, List.set_cons_zero, List.set_cons_succ]
      refine wpAnyH_ready (rs := [1]) (by kernel_rfl) (by simp) ?_
      refine AllReadyH.cons (o := { dst := some 30, op := .move (.tmp 7), type := 51, pos := "read.go:246", after := #[], guard := none }) rfl (fun K hK => ?q10) AllReadyH.nil
      case q10 =>
       go_simp
       refine hK.out _ _ trivial (fun _ => ?_)
       clear hK K
       try simp only [Act.put, List.setIfInBounds_toArray, List.set_cons_zero, List.set_cons_succ]
       refine wpAnyH_ready (rs := [2]) (by kernel_rfl) (by simp) ?_
       refine AllReadyH.cons (o := { dst := some 31, op := .call { callee := .value (.func 20), args := #[.tmp 30], argTypes := #[51] }, type := 34, pos := "read.go:246", after := #[{ on := 1, ground := .data }], guard := none }) rfl (fun K hK => ?q11) AllReadyH.nil
       case q11 =>
        go_simp
        refine CS.out.mono ?_
        rintro e w2 hq
        obtain ⟨f2, v2, rfl, h2, hj2, k0, k1, k2, A2, m2, cc2, NA, nc, rfl, ht2, hg2, hn2, ho2⟩ := hq.ok HRS.out
        have hj3 : j + 1 ≤ j2 := by omega
        have B2 := Lib.hid (RD.out.bx.on (f2.low.mono hB3))
        have O2 := Lib.hid (RD.out.rd.row f2).1
        have hs2 := f2.size
        clear hq
        obtain ⟨c0, g0, c1, g1, c2, g2⟩ := B2.out.cells
        have hl2 : w.heap.size < w2.heap.size := by have := B2.out.lt; omega
        go_wp2_with fail
        refine hK.out _ _ trivial (fun _ => ?_)
        clear hK K
        try simp only [Act.put, List.setIfInBounds_toArray, List.set_cons_zero, List.set_cons_succ]
        refine wpAnyH_ready (rs := [3]) (by kernel_rfl) (by simp) ?_
        refine AllReadyH.cons (o := { dst := some 32, op := .buildSlice 22 1 #[(0, .tmp 31)], type := 22, pos := "read.go:246", after := #[{ on := 2, ground := .data }], guard := none }) rfl (fun K hK => ?q12) AllReadyH.nil
        case q12 =>
         go_simp
         refine hK.out _ _ trivial (fun _ => ?_)
         clear hK K
         try simp only [Act.put, List.setIfInBounds_toArray, List.set_cons_zero, List.set_cons_succ]
         refine wpAnyH_ready (rs := [4]) (by kernel_rfl) (by simp) ?_
         refine AllReadyH.cons (o := { dst := some 33, op := .call { callee := .builtin .append, args := #[.tmp 29, .tmp 32], argTypes := #[22, 22] }, type := 22, pos := "read.go:246", after := #[{ on := 0, ground := .data }, { on := 3, ground := .data }, { on := 2, ground := .chain }], guard := none }) rfl (fun K hK => ?q13) AllReadyH.nil
         case q13 =>
          refine step_append_lies _ rfl _ _ _ rfl w.heap.size 34 sen (.agg #[.int .i64 0, .int .i64 0, .string ⟨#[]⟩, .slice none 0 0, .slice none 0 0]) 5 80 Tryz.underlying22 hi1 hi2 hi3 hi4 rfl (by omega) _ ss.length xs rfl (own_below O2.out ((Below.refl _ _).alloc (Nat.le_refl _) _)) ⟨w2.heap.size, 0, none⟩ 1 1 [.int .i64 k0, .int .i64 k1, .string k2, .slice A2 m2 cc2, .slice NA x.2.length nc] rfl rfl (World.news_of_block (heap_alloc_new _ _)) ?sm (by omega) (by unfold maxLen; omega) (by omega) (by have := B2.out.lt; simp; omega) _ rfl ?_
          case sm => (intro u hu; simp only [List.mem_cons, List.not_mem_nil, or_false] at hu; rcases hu with rfl | rfl | rfl | rfl | rfl <;> rfl)
          intro g9 cap9 w9 hown9 hg9 hat9 hlt9
          have B9 := Lib.hid ((B2.out.on ((Below.refl _ _).alloc (by have := B2.out.lt; omega) _)).grown hg9 (own_below O2.out ((Below.refl _ _).alloc (Nat.le_refl _) _)))
          have R9 := Lib.hid (RdI.push RD.out.rd f2 hN hlo h2 ht2 hg2 hn2 (sent_ns HRS.out) ho2 ((Below.refl _ _).alloc (Nat.le_refl _) _) hown9 hg9)
          have O9 := Lib.hid hown9
          clear hown9 hg9 hat9
          obtain ⟨c0, g0, c1, g1, c2, g2⟩ := B9.out.cells
          refine hK.out _ _ trivial (fun _ => ?_)
          clear hK K
          try simp only [Act.put, List.setIfInBounds_toArray, List.set_cons_zero, List.set_cons_succ]
          refine wpAnyH_ready (rs := [5]) (by kernel_rfl) (by simp) ?_
          refine AllReadyH.cons (o := { dst := none, op := .store 22 (.tmp 2) (.tmp 33), type := 0, pos := "read.go:246", after := #[{ on := 4, ground := .data }, { on := 4, ground := .chain }, { on := 0, ground := .phase }, { on := 1, ground := .phase }, { on := 2, ground := .phase }, { on := 3, ground := .phase }, { on := 4, ground := .phase }], guard := none }) rfl (fun K hK => ?q14) AllReadyH.nil
          case q14 =>
           go_simp
           refine hK.out _ _ trivial (fun _ => ?_)
           clear hK K
           try simp only [Act.put, List.setIfInBounds_toArray, List.set_cons_zero, List.set_cons_succ]
           refine wpAnyH_done (by kernel_rfl) ?_ _
           refine NoPanic.normal ?_
           have hgj : c.tn - j2 < gk := by have := hj3; omega
           have RN := Lib.hid (show RL c w s (w9.setCell ⟨w.heap.size, 0, none⟩ (.slice (some ⟨g9, 0, none⟩) (ss.length + 1) cap9)) j2 (.slice (some ⟨g9, 0, none⟩) (ss.length + 1) cap9) (xs ++ [.int .i64 k0, .int .i64 k1, .string k2, .slice A2 m2 cc2, .slice NA x.2.length nc]) (ss ++ [x]) from
            ⟨B9.out.set _, R9.out.set B9.out.b0 (by decide) (Nat.le_refl _) _ _, f, by have := HF.out.1; omega, by rw [HF.out.2]; exact sent_ok HJ.out HRS.out⟩)
           go_wp2_with fail
           go_roundg (c.tn - j2)
           case measure => exact hgj
           case rel => exact ⟨j2, _, _, _, by have := RN.out.rd.cells; obtain ⟨_, _, _, h9, _⟩ := this; omega, RN.out⟩
     case q9 =>
      go_simp
      refine hK.out _ _ trivial (fun _ => ?_)
      clear hK K
      try simp only [Act.put, List.setIfInBounds_toArray, List.set_cons_zero, List.set_cons_succ]
      refine wpAnyH_ready (rs := [0, 2]) (by kernel_rfl) (by simp) ?_
      refine AllReadyH.cons (o := { dst := some 29, op := .load 22 (.tmp 2), type := 22, pos := "read.go:246", after := #[], guard := none }) rfl (fun K hK => ?q15) (AllReadyH.cons (o := { dst := some 31, op := .call { callee := .value (.func 20), args := #[.tmp 30], argTypes := #[51] }, type := 34, pos := "read.go:246", after := #[{ on := 1, ground := .data }], guard := none }) rfl (fun K hK => ?q16) AllReadyH.nil)
      case q15 =>
       go_simp
       refine hK.out _ _ trivial (fun _ => ?_)
       clear hK K
       try simp only [Act.put, List.setIfInBounds_toArray, List.set_cons_zero, List.set_cons_succ]
       refine wpAnyH_ready (rs := [2]) (by kernel_rfl) (by simp) ?_
       refine AllReadyH.cons (o := { dst := some 31, op := .call { callee := .value (.func 20), args := #[.tmp 30], argTypes := #[51] }, type := 34, pos := "read.go:246", after := #[{ on := 1, ground := .data }], guard := none }) rfl (fun K hK => ?q17) AllReadyH.nil
       case q17 =>
        go_simp
        refine CS.out.mono ?_
        rintro e w2 hq
        obtain ⟨f2, v2, rfl, h2, hj2, k0, k1, k2, A2, m2, cc2, NA, nc, rfl, ht2, hg2, hn2, ho2⟩ := hq.ok HRS.out
        have hj3 : j + 1 ≤ j2 := by omega
        have B2 := Lib.hid (RD.out.bx.on (f2.low.mono hB3))
        have O2 := Lib.hid (RD.out.rd.row f2).1
        have hs2 := f2.size
        clear hq
        obtain ⟨c0, g0, c1, g1, c2, g2⟩ := B2.out.cells
        have hl2 : w.heap.size < w2.heap.size := by have := B2.out.lt; omega
        go_wp2_with fail
        refine hK.out _ _ trivial (fun _ => ?_)
        clear hK K
        try simp only [Act.put, List.setIfInBounds_toArray, List.set_cons_zero, List.set_cons_succ]
        refine wpAnyH_ready (rs := [3]) (by kernel_rfl) (by simp) ?_
        refine AllReadyH.cons (o := { dst := some 32, op := .buildSlice 22 1 #[(0, .tmp 31)], type := 22, pos := "read.go:246", after := #[{ on := 2, ground := .data }], guard := none }) rfl (fun K hK => ?q18) AllReadyH.nil
        case q18 =>
         go_simp
         refine hK.out _ _ trivial (fun _ => ?_)
         clear hK K
         try simp only [Act.put, List.setIfInBounds_toArray, List.set_cons_zero, List.set_cons_succ]
         refine wpAnyH_ready (rs := [4]) (by kernel_rfl) (by simp) ?_
         refine AllReadyH.cons (o := { dst := some 33, op := .call { callee := .builtin .append, args := #[.tmp 29, .tmp 32], argTypes := #[22, 22] }, type := 22, pos := "read.go:246", after := #[{ on := 0, ground := .data }, { on := 3, ground := .data }, { on := 2, ground := .chain }], guard := none }) rfl (fun K hK => ?q19) AllReadyH.nil
         case q19 =>
          refine step_append_lies _ rfl _ _ _ rfl w.heap.size 34 sen (.agg #[.int .i64 0, .int .i64 0, .string ⟨#[]⟩, .slice none 0 0, .slice none 0 0]) 5 80 Tryz.underlying22 hi1 hi2 hi3 hi4 rfl (by omega) _ ss.length xs rfl (own_below O2.out ((Below.refl _ _).alloc (Nat.le_refl _) _)) ⟨w2.heap.size, 0, none⟩ 1 1 [.int .i64 k0, .int .i64 k1, .string k2, .slice A2 m2 cc2, .slice NA x.2.length nc] rfl rfl (World.news_of_block (heap_alloc_new _ _)) ?sm (by omega) (by unfold maxLen; omega) (by omega) (by have := B2.out.lt; simp; omega) _ rfl ?_
          case sm => (intro u hu; simp only [List.mem_cons, List.not_mem_nil, or_false] at hu; rcases hu with rfl | rfl | rfl | rfl | rfl <;> rfl)
          intro g9 cap9 w9 hown9 hg9 hat9 hlt9
          have B9 := Lib.hid ((B2.out.on ((Below.refl _ _).alloc (by have := B2.out.lt; omega) _)).grown hg9 (own_below O2.out ((Below.refl _ _).alloc (Nat.le_refl _) _)))
          have R9 := Lib.hid (RdI.push RD.out.rd f2 hN hlo h2 ht2 hg2 hn2 (sent_ns HRS.out) ho2 ((Below.refl _ _).alloc (Nat.le_refl _) _) hown9 hg9)
          have O9 := Lib.hid hown9
          clear hown9 hg9 hat9
          obtain ⟨c0, g0, c1, g1, c2, g2⟩ := B9.out.cells
          refine hK.out _ _ trivial (fun _ => ?_)
          clear hK K
          try simp only [Act.put, List.setIfInBounds_toArray, List.set_cons_zero, List.set_cons_succ]
          refine wpAnyH_ready (rs := [5]) (by kernel_rfl) (by simp) ?_
          refine AllReadyH.cons (o := { dst := none, op := .store 22 (.tmp 2) (.tmp 33), type := 0, pos := "read.go:246", after := #[{ on := 4, ground := .data }, { on := 4, ground := .chain }, { on := 0, ground := .phase }, { on := 1, ground := .phase }, { on := 2, ground := .phase }, { on := 3, ground := .phase }, { on := 4, ground := .phase }], guard := none }) rfl (fun K hK => ?q20) AllReadyH.nil
          case q20 =>
           go_simp
           refine hK.out _ _ trivial (fun _ => ?_)
           clear hK K
           try simp only [Act.put, List.setIfInBounds_toArray, List.set_cons_zero, List.set_cons_succ]
           refine wpAnyH_done (by kernel_rfl) ?_ _
           refine NoPanic.normal ?_
           have hgj : c.tn - j2 < gk := by have := hj3; omega
           have RN := Lib.hid (show RL c w s (w9.setCell ⟨w.heap.size, 0, none⟩ (.slice (some ⟨g9, 0, none⟩) (ss.length + 1) cap9)) j2 (.slice (some ⟨g9, 0, none⟩) (ss.length + 1) cap9) (xs ++ [.int .i64 k0, .int .i64 k1, .string k2, .slice A2 m2 cc2, .slice NA x.2.length nc]) (ss ++ [x]) from
            ⟨B9.out.set _, R9.out.set B9.out.b0 (by decide) (Nat.le_refl _) _ _, f, by have := HF.out.1; omega, by rw [HF.out.2]; exact sent_ok HJ.out HRS.out⟩)
           go_wp2_with fail
           go_roundg (c.tn - j2)
           case measure => exact hgj
           case rel => exact ⟨j2, _, _, _, by have := RN.out.rd.cells; obtain ⟨_, _, _, h9, _⟩ := this; omega, RN.out⟩
      case q16 =>
       go_simp
       refine CS.out.mono ?_
       rintro e w2 hq
       obtain ⟨f2, v2, rfl, h2, hj2, k0, k1, k2, A2, m2, cc2, NA, nc, rfl, ht2, hg2, hn2, ho2⟩ := hq.ok HRS.out
       have hj3 : j + 1 ≤ j2 := by omega
       have B2 := Lib.hid (RD.out.bx.on (f2.low.mono hB3))
       have O2 := Lib.hid (RD.out.rd.row f2).1
       have hs2 := f2.size
       clear hq
       obtain ⟨c0, g0, c1, g1, c2, g2⟩ := B2.out.cells
       have hl2 : w.heap.size < w2.heap.size := by have := B2.out.lt; omega
       go_wp2_with fail
       refine hK.out _ _ trivial (fun _ => ?_)
       clear hK K
       try simp only [Act.put, List.setIfInBounds_toArray, List.set_cons_zero, List.set_cons_succ]
       refine wpAnyH_ready (rs := [0, 3]) (by kernel_rfl) (by simp) ?_
       refine AllReadyH.cons (o := { dst := some 29, op := .load 22 (.tmp 2), type := 22, pos := "read.go:246", after := #[], guard := none }) rfl (fun K hK => ?q21) (AllReadyH.cons (o := { dst := some 32, op := .buildSlice 22 1 #[(0, .tmp 31)], type := 22, pos := "read.go:246", after := #[{ on := 2, ground := .data }], guard := none }) rfl (fun K hK => ?q22) AllReadyH.nil)
       case q21 =>
        go_simp
        refine hK.out _ _ trivial (fun _ => ?_)
        clear hK K
        try simp only [Act.put, List.setIfInBounds_toArray, List.set_cons_zero, List.set_cons_succ]
        refine wpAnyH_ready (rs := [3]) (by kernel_rfl) (by simp) ?_
        refine AllReadyH.cons (o := { dst := some 32, op := .buildSlice 22 1 #[(0, .tmp 31)], type := 22, pos := "read.go:246", after := #[{ on := 2, ground := .data }], guard := none }) rfl (fun K hK => ?q23) AllReadyH.nil
        case q23 =>
         go_simp
         refine hK.out _ _ trivial (fun _ => ?_)
         clear hK K
         try simp only [Act.put, List.setIfInBounds_toArray, List.set_cons_zero, List.set_cons_succ]
         refine wpAnyH_ready (rs := [4]) (by kernel_rfl) (by simp) ?_
         refine AllReadyH.cons (o := { dst := some 33, op := .call { callee := .builtin .append, args := #[.tmp 29, .tmp 32], argTypes := #[22, 22] }, type := 22, pos := "read.go:246", after := #[{ on := 0, ground := .data }, { on := 3, ground := .data }, { on := 2, ground := .chain }], guard := none }) rfl (fun K hK => ?q24) AllReadyH.nil
         case q24 =>
          refine step_append_lies _ rfl _ _ _ rfl w.heap.size 34 sen (.agg #[.int .i64 0, .int .i64 0, .string ⟨#[]⟩, .slice none 0 0, .slice none 0 0]) 5 80 Tryz.underlying22 hi1 hi2 hi3 hi4 rfl (by omega) _ ss.length xs rfl (own_below O2.out ((Below.refl _ _).alloc (Nat.le_refl _) _)) ⟨w2.heap.size, 0, none⟩ 1 1 [.int .i64 k0, .int .i64 k1, .string k2, .slice A2 m2 cc2, .slice NA x.2.length nc] rfl rfl (World.news_of_block (heap_alloc_new _ _)) ?sm (by omega) (by unfold maxLen; omega) (by omega) (by have := B2.out.lt; simp; omega) _ rfl ?_
          case sm => (intro u hu; simp only [List.mem_cons, List.not_mem_nil, or_false] at hu; rcases hu with rfl | rfl | rfl | rfl | rfl <;> rfl)
          intro g9 cap9 w9 hown9 hg9 hat9 hlt9
          have B9 := Lib.hid ((B2.out.on ((Below.refl _ _).alloc (by have := B2.out.lt; omega) _)).grown hg9 (own_below O2.out ((Below.refl _ _).alloc (Nat.le_refl _) _)))
          have R9 := Lib.hid (RdI.push RD.out.rd f2 hN hlo h2 ht2 hg2 hn2 (sent_ns HRS.out) ho2 ((Below.refl _ _).alloc (Nat.le_refl _) _) hown9 hg9)
          have O9 := Lib.hid hown9
          clear hown9 hg9 hat9
          obtain ⟨c0, g0, c1, g1, c2, g2⟩ := B9.out.cells
          refine hK.out _ _ trivial (fun _ => ?_)
          clear hK K
          try simp only [Act.put, List.setIfInBounds_toArray, List.set_cons_zero, List.set_cons_succ]
          refine wpAnyH_ready (rs := [5]) (by kernel_rfl) (by simp) ?_
          refine AllReadyH.cons (o := { dst := none, op := .store 22 (.tmp 2) (.tmp 33), type := 0, pos := "read.go:246", after := #[{ on := 4, ground := .data }, { on := 4, ground := .chain }, { on := 0, ground := .phase }, { on := 1, ground := .phase }, { on := 2, ground := .phase }, { on := 3, ground := .phase }, { on := 4, ground := .phase }], guard := none }) rfl (fun K hK => ?q25) AllReadyH.nil
          case q25 =>
           go_simp
           refine hK.out _ _ trivial (fun _ => ?_)
           clear hK K
           try simp only [Act.put, List.setIfInBounds_toArray, List.set_cons_zero, List.set_cons_succ]
           refine wpAnyH_done (by kernel_rfl) ?_ _
           refine NoPanic.normal ?_
           have hgj : c.tn - j2 < gk := by have := hj3; omega
           have RN := Lib.hid (show RL c w s (w9.setCell ⟨w.heap.size, 0, none⟩ (.slice (some ⟨g9, 0, none⟩) (ss.length + 1) cap9)) j2 (.slice (some ⟨g9, 0, none⟩) (ss.length + 1) cap9) (xs ++ [.int .i64 k0, .int .i64 k1, .string k2, .slice A2 m2 cc2, .slice NA x.2.length nc]) (ss ++ [x]) from
            ⟨B9.out.set _, R9.out.set B9.out.b0 (by decide) (Nat.le_refl _) _ _, f, by have := HF.out.1; omega, by rw [HF.out.2]; exact sent_ok HJ.out HRS.out⟩)
           go_wp2_with fail
           go_roundg (c.tn - j2)
           case measure => exact hgj
           case rel => exact ⟨j2, _, _, _, by have := RN.out.rd.cells; obtain ⟨_, _, _, h9, _⟩ := this; omega, RN.out⟩
       case q22 =>
        go_simp
        refine hK.out _ _ trivial (fun _ => ?_)
        clear hK K
        try simp only [Act.put, List.setIfInBounds_toArray, List.set_cons_zero, List.set_cons_succ]
        refine wpAnyH_ready (rs := [0]) (by kernel_rfl) (by simp) ?_
        refine AllReadyH.cons (o := { dst := some 29, op := .load 22 (.tmp 2), type := 22, pos := "read.go:246", after := #[], guard := none }) rfl (fun K hK => ?q26) AllReadyH.nil
        case q26 =>
         go_simp
         refine hK.out _ _ trivial (fun _ => ?_)
         clear hK K
         try simp only [Act.put, List.setIfInBounds_toArray, List.set_cons_zero, List.set_cons_succ]
         refine wpAnyH_ready (rs := [4]) (by kernel_rfl) (by simp) ?_
         refine AllReadyH.cons (o := { dst := some 33, op := .call { callee := .builtin .append, args := #[.tmp 29, .tmp 32], argTypes := #[22, 22] }, type := 22, pos := "read.go:246", after := #[{ on := 0, ground := .data }, { on := 3, ground := .data }, { on := 2, ground := .chain }], guard := none }) rfl (fun K hK => ?q27) AllReadyH.nil
         case q27 =>
          refine step_append_lies _ rfl _ _ _ rfl w.heap.size 34 sen (.agg #[.int .i64 0, .int .i64 0, .string ⟨#[]⟩, .slice none 0 0, .slice none 0 0]) 5 80 Tryz.underlying22 hi1 hi2 hi3 hi4 rfl (by omega) _ ss.length xs rfl (own_below O2.out ((Below.refl _ _).alloc (Nat.le_refl _) _)) ⟨w2.heap.size, 0, none⟩ 1 1 [.int .i64 k0, .int .i64 k1, .string k2, .slice A2 m2 cc2, .slice NA x.2.length nc] rfl rfl (World.news_of_block (heap_alloc_new _ _)) ?sm (by omega) (by unfold maxLen; omega) (by omega) (by have := B2.out.lt; simp; omega) _ rfl ?_
          case sm => (intro u hu; simp only [List.mem_cons, List.not_mem_nil, or_false] at hu; rcases hu with rfl | rfl | rfl | rfl | rfl <;> rfl)
          intro g9 cap9 w9 hown9 hg9 hat9 hlt9
          have B9 := Lib.hid ((B2.out.on ((Below.refl _ _).alloc (by have := B2.out.lt; omega) _)).grown hg9 (own_below O2.out ((Below.refl _ _).alloc (Nat.le_refl _) _)))
          have R9 := Lib.hid (RdI.push RD.out.rd f2 hN hlo h2 ht2 hg2 hn2 (sent_ns HRS.out) ho2 ((Below.refl _ _).alloc (Nat.le_refl _) _) hown9 hg9)
          have O9 := Lib.hid hown9
          clear hown9 hg9 hat9
          obtain ⟨c0, g0, c1, g1, c2, g2⟩ := B9.out.cells
          refine hK.out _ _ trivial (fun _ => ?_)
          clear hK K
          try simp only [Act.put, List.setIfInBounds_toArray, List.set_cons_zero, List.set_cons_succ]
          refine wpAnyH_ready (rs := [5]) (by kernel_rfl) (by simp) ?_
          refine AllReadyH.cons (o := { dst := none, op := .store 22 (.tmp 2) (.tmp 33), type := 0, pos := "read.go:246", after := #[{ on := 4, ground := .data }, { on := 4, ground := .chain }, { on := 0, ground := .phase }, { on := 1, ground := .phase }, { on := 2, ground := .phase }, { on := 3, ground := .phase }, { on := 4, ground := .phase }], guard := none }) rfl (fun K hK => ?q28) AllReadyH.nil
          case q28 =>
           go_simp
           refine hK.out _ _ trivial (fun _ => ?_)
           clear hK K
           try simp only [Act.put, List.setIfInBounds_toArray, List.set_cons_zero, List.set_cons_succ]
           refine wpAnyH_done (by kernel_rfl) ?_ _
           refine NoPanic.normal ?_
           have hgj : c.tn - j2 < gk := by have := hj3; omega
           have RN := Lib.hid (show RL c w s (w9.setCell ⟨w.heap.size, 0, none⟩ (.slice (some ⟨g9, 0, none⟩) (ss.length + 1) cap9)) j2 (.slice (some ⟨g9, 0, none⟩) (ss.length + 1) cap9) (xs ++ [.int .i64 k0, .int .i64 k1, .string k2, .slice A2 m2 cc2, .slice NA x.2.length nc]) (ss ++ [x]) from
            ⟨B9.out.set _, R9.out.set B9.out.b0 (by decide) (Nat.le_refl _) _ _, f, by have := HF.out.1; omega, by rw [HF.out.2]; exact sent_ok HJ.out HRS.out⟩)
           go_wp2_with fail
           go_roundg (c.tn - j2)
           case measure => exact hgj
           case rel => exact ⟨j2, _, _, _, by have := RN.out.rd.cells; obtain ⟨_, _, _, h9, _⟩ := this; omega, RN.out⟩
   ·have hj' : ¬ (0 : Int) < ((c.tn - j : Nat) : Int) := by omega
    have HQ := Lib.hid (show readN s = .ok ss by
     obtain ⟨f, h1, h2⟩ := R.out.res
     rw [h2, readC_end (by rw [HTL.out]; exact hj)])
    obtain ⟨A4, m4, rfl, _⟩ := own_open R.out.rd.own
    have hB2 := R.out.bx.lt
    have hB0 : w.heap.size < wr.heap.size := by omega
    have hB1 : w.heap.size + 1 < wr.heap.size := by omega
    have hB4 : w.heap.size + 1 + 1 < wr.heap.size := by omega
    go_wp2_with fail
    show Leaves _ _ _ _ _ _ _
    refine leaves_cons (f := 19) (args := #[.pointer (some ⟨w.heap.size, 0, none⟩), .pointer (some ⟨w.heap.size + 1, 0, none⟩), .pointer (some ⟨w.heap.size + 1 + 1, 0, none⟩)]) (by simp) (by simp [go_sem]) ?_
    refine (rcatch_idle _ _ _ _).mono ?_
    rintro e u' w'' ⟨rfl, rfl, rfl⟩
    have HE := Lib.hid (((R.out.bx.low.setCell (p := ⟨w.heap.size, 0, none⟩) (Nat.le_refl _) (.slice A4 ss.length m4)).setCell (p := ⟨w.heap.size + 1, 0, none⟩) (by simp) (.int .i64 0)).setCell (p := ⟨w.heap.size + 1 + 1, 0, none⟩) (by simp; omega) (.int .i64 0))
    have hk : ∀ g (cs : Array Value) (t : TypeId) (m : Nat × Nat), wr.heap[g]? = some (Obj.cells cs t m) → t ≠ 22 → t ≠ 3 → t ≠ 23 → (((wr.setCell ⟨w.heap.size, 0, none⟩ (.slice A4 ss.length m4)).setCell ⟨w.heap.size + 1, 0, none⟩ (.int .i64 0)).setCell ⟨w.heap.size + 1 + 1, 0, none⟩ (.int .i64 0)).heap[g]? = some (Obj.cells cs t m) := fun g cs t m hg h1 h2 h3 => by
     have n0 : g ≠ w.heap.size := by
      rintro rfl
      rw [R.out.bx.b0] at hg
      injection hg with hg
      injection hg with _ hg
      exact h1 hg.symm
     have n1 : g ≠ w.heap.size + 1 := by
      rintro rfl
      rw [R.out.bx.b1] at hg
      injection hg with hg
      injection hg with _ hg
      exact h2 hg.symm
     have n2 : g ≠ w.heap.size + 1 + 1 := by
      rintro rfl
      rw [R.out.bx.b2] at hg
      injection hg with hg
      injection hg with _ hg
      exact h3 hg.symm
     exact ((Below.heap_setCell _ _ _ _ n2).trans ((Below.heap_setCell _ _ _ _ n1).trans (Below.heap_setCell _ _ _ _ n0))).trans hg
    have HT := Lib.hid (readPQ_ok (B := w.heap.size) HQ.out (own_keep R.out.rd.own fun g hg => by
     obtain ⟨cs, m, hh⟩ := Go.Lib.ownsRow_kind R.out.rd.own g hg
     exact (hk g cs _ m hh (by decide) (by decide) (by decide)).trans hh.symm) (R.out.rd.sr.keep fun b cs t f hb ht => hk b cs t f hb (by rcases ht with rfl | rfl <;> decide) (by rcases ht with rfl | rfl <;> decide) (by rcases ht with rfl | rfl <;> decide)) (by omega))
    clear hk
    simp [Leaves, settle, results, Tryz.results9, go_sem, World.cell?_setCell_other, World.cell?_setCell_same, c0, c1, c2]
    exact ⟨⟨_, _, _, ⟨rfl, rfl, rfl⟩, HT.out⟩, HE.out⟩
end Go.Proofs.YtlogcealmiokkaaGreatDoor
namespace Go.Proofs.YtlogcealmiokkaaGreatDoor
open Go.RowKit
theorem readQ_of {s : ByteArray} {w w' : World} {v : Value} {p er : Int} (h : ReadPQ s w.heap.size w' v p er) : ReadQ s w v p er w' := by
 unfold ReadPQ at h
 unfold ReadQ
 cases hr : readN s with
 | error e =>
  rw [hr] at h
  obtain ⟨rfl, rfl, rfl, hn⟩ := h
  exact ⟨rfl, rfl, hn, rfl⟩
 | ok l =>
  rw [hr] at h
  obtain ⟨rfl, rfl, xs, h1, h2, h3⟩ := h
  refine ⟨rfl, rfl, xs, h1, fun k hk => ?_, h3, fun x hx => ?_⟩
  ·obtain ⟨k0, k1, k2, A, m, cc, NA, nc, c0, c1, c2, c3, c4, ht, hg, hn, _⟩ := h2 k l[k] (List.getElem?_eq_getElem hk)
   have e : sensT l k = (l[k]).1 := by simp [sensT, List.getD_eq_getElem?_getD, hk]
   rw [e]
   exact ⟨_, _, _, _, NA, _, nc, c0, c1, c2, c3, c4, ht, hg, hn⟩
  ·subst hx
   obtain ⟨k0, k1, k2, A, m, cc, NA, nc, c0, c1, c2, c3, c4, ht, hg, hn, hl, ho⟩ := h2 0 x rfl
   exact ⟨NA, _, nc, c4, ho, hl⟩
theorem preadx_any (s : ByteArray) (w : World) {mx : Int} (hmx : w.cell? ⟨1, 0, none⟩ = some (.int .i64 mx)) (htab : TabX w) (herr : ErrX w) (hops : TableX w) : Calls Tryz.prog 9 #[.string s] w fun e w' =>
 (∃ (v : Value) (p er : Int), e = .returned (.tuple #[v, .int .i64 p, .int .i64 er]) ∧ ReadQ s w v p er w') ∧ Below w.heap.size w w' := by
 refine (pread_any s w hmx htab herr hops).mono ?_
 rintro e w' ⟨⟨v, p, er, rfl, h⟩, hb⟩
 exact ⟨⟨v, p, er, rfl, readQ_of h⟩, hb⟩
set_option maxRecDepth 100000 in
set_option maxHeartbeats 8000000 in
theorem ponexn_any (s : ByteArray) (w : World) {mx : Int} (hmx : w.cell? ⟨1, 0, none⟩ = some (.int .i64 mx)) (htab : TabX w) (herr : ErrX w) (hops : TableX w) : Calls Tryz.prog 13 #[.string s] w fun e w' => OneN s w e w' := by
 have hw0 := World.block_lt_of_cell? w _ hmx
 dsimp only at hw0
 have HMX := Lib.hid hmx
 have HTB := Lib.hid htab
 have HER := Lib.hid herr
 have HOP := Lib.hid hops
 clear hmx htab herr hops
 go_enter Tryz.func13, Tryz.ntmps13
 go_wp2_with fail
 refine (ptokens_any s _ ((((Below.refl w.heap.size w).alloc (Nat.le_refl _) (Obj.cells #[.int .i64 0, .int .i64 0, .string ⟨#[]⟩, .slice none 0 0, .slice none 0 0] 34)).cell (p := ⟨1, 0, none⟩) hw0).trans HMX.out)).mono ?_
 rintro e w1 ⟨⟨v, p, er, rfl, hok⟩, h1⟩
 have hbx1 := Lib.hid ((h1.block w.heap.size (by simp)).trans (heap_alloc_new w (Obj.cells #[.int .i64 0, .int .i64 0, .string ⟨#[]⟩, .slice none 0 0, .slice none 0 0] 34)))
 have B1 := Lib.hid (((Below.refl w.heap.size w).alloc (Nat.le_refl _) (Obj.cells #[.int .i64 0, .int .i64 0, .string ⟨#[]⟩, .slice none 0 0, .slice none 0 0] 34)).trans (h1.mono (by simp)))
 obtain ⟨x0, x1, x2, x3, x4⟩ := box5 hbx1.out
 have xf : ∀ j, w1.frozen? ⟨w.heap.size, j, none⟩ = false := fun j => by simp [World.frozen?, hbx1.out]
 clear h1
 by_cases he : er = 0
 ·subst he
  obtain ⟨n, l, hlex, rfl, hown, hl, hn, hsz, htk⟩ : ∃ n l, lexN s = .ok l ∧ p = 0 ∧ w1.ownsRow (w.heap.size + 1) 60 4 v n (tkCells l) ∧ l.length = n ∧ n ≤ 1000 ∧ s.size ≤ 4096 ∧ ∀ x ∈ l, x.ok s.size := by
   unfold TokQ at hok
   cases hL : lexN s with
   | ok l => rw [hL] at hok; exact ⟨_, l, rfl, hok.1, by simpa using hok.2.2.1, rfl, hok.2.2.2.1, hok.2.2.2.2.1, hok.2.2.2.2.2⟩
   | bad q e => rw [hL] at hok; exact absurd rfl hok.2.2.2
  have HLX := Lib.hid hlex
  obtain ⟨A, tc, rfl, hc, hA, hcm, hx⟩ := own_open hown
  clear hok hown hlex
  have hsum : s.size + 2 ≤ 5000 := by omega
  rcases Nat.eq_zero_or_pos n with h0 | h0
  ·subst h0
   have HEN := Lib.hid (show endedN l s = s ++ ⟨#[32, 46]⟩ by rw [List.length_eq_zero_iff.1 hl]; rfl)
   go_wp2_with fail
   refine (preadx_any _ _ ((B1.out.cell (p := ⟨1, 0, none⟩) hw0).trans HMX.out) (HTB.out.below B1.out) (HER.out.below B1.out) (HOP.out.below B1.out)).mono ?_
   rintro e w2 ⟨⟨v2, q, er2, rfl, hq⟩, h2⟩
   obtain ⟨hnil, hok2⟩ := readQ_split hq
   have hbx2 := Lib.hid ((h2.block _ (heap_lt hbx1.out)).trans hbx1.out)
   have B2 := Lib.hid (B1.out.trans (h2.mono B1.out.size))
   have hs1 := B1.out.size
   obtain ⟨x0, x1, x2, x3, x4⟩ := box5 hbx2.out
   have xf : ∀ j, w2.frozen? ⟨w.heap.size, j, none⟩ = false := fun j => by simp [World.frozen?, hbx2.out]
   clear h2 hq
   by_cases he2 : er2 = 0
   ·subst he2
    obtain ⟨n2, xs, ls, hread, hnl, hown2, h5, hn2, hnam⟩ := hok2 rfl
    have HRD := Lib.hid hread
    have HNL := Lib.hid hnl
    have hl2 := own_len hown2
    obtain ⟨A2, c2, rfl, hc2, hA2, _, hx2⟩ := own_open hown2
    clear hok2 hnil hown2 hread hnl
    by_cases h12 : n2 = 1
    ·subst h12
     obtain ⟨x, hls⟩ : ∃ x, ls = [x] := List.length_eq_one_iff.1 HNL.out.symm
     have HLS := Lib.hid hls
     have HX0 := Lib.hid (show sensT ls 0 = x.1 by rw [hls]; rfl)
     have HNA := Lib.hid (fun NA nn nc h4 => fun W hk => names_out (w := w) (W := W) (NA := NA) (nn := nn) (nc := nc) hnam hls h4 hs1 hbx2.out hk)
     clear hls hnam
     obtain ⟨g, cur, rfl, _, hh, hcur⟩ := hx2 (by omega)
     obtain ⟨v0, v1, v2, v3, NA, nn, nc, c0, c1, c2', c3, c4, htp, hgd, hnd⟩ := h5 0 (by omega)
     rw [HX0.out] at htp hgd hnd
     have hag := htp.agg
     obtain ⟨k0, k1, k2, A0, m0, cc0, hag⟩ := hag
     injection hag with hag
     simp only [Array.mk.injEq, List.cons.injEq, and_true] at hag
     obtain ⟨rfl, rfl, rfl, rfl⟩ := hag
     have hr := fun (j : Nat) (hj : j < 1 * 5) => (cell_of_row w2 g j _ _ _ hh).trans (hcur j hj)
     have z0 := (hr 0 (by omega)).trans c0
     have z1 := (hr 1 (by omega)).trans c1
     have z2 := (hr 2 (by omega)).trans c2'
     have z3 := (hr 3 (by omega)).trans c3
     have z4 := (hr 4 (by omega)).trans c4
     have HT := Lib.hid htp
     have HN4 := Lib.hid (HNA.out _ _ _ c4)
     clear HNA
     clear hr hcur hx2 hx htp h5 c0 c1 c2' c3 c4
     go_wp2_with fail
     have P := box_put5 hbx2.out (.int .i64 k0) (.int .i64 k1) (.string k2) (.slice A0 m0 cc0) (.slice NA nn nc) rfl
     obtain ⟨p0, p1, p2, p3, p4⟩ := box5 P.1
     refine bodyPost_ret (v := .tuple #[.agg #[.int .i64 k0, .int .i64 k1, .string k2, .slice A0 m0 cc0, .slice NA nn nc], .int .i64 0, .int .i64 0]) (by simp [results, go_sem, p0, p1, p2, p3, p4]) rfl ?_
     refine ⟨⟨_, _, _, _, _, _, _, _, _, _, _, rfl, Lib.hid fun _ => ⟨x.1, x.2, sent_one HLX.out HEN.out (by rw [HRD.out, HLS.out]), (HT.out.more fun b hb => Nat.le_trans hs1 hb).keep fun b cs f hS hb => ⟨(P.2.1 b ?_).trans hb, hS⟩, hgd, hnd, HN4.out _ P.2.1⟩, Lib.hid fun e => absurd rfl e⟩, P.2.2 _ _ (Nat.le_refl _) B2.out⟩
     rintro rfl
     rw [hbx2.out] at hb
     injection hb with hb
     injection hb with _ hb
     exact absurd hb (by decide)
    ·have h12' : ((n2 : Int) != 1) = true := by simp; omega
     clear hx2 h5 hx
     go_wp2_with fail
     obtain ⟨p0, p1, p2, p3, p4⟩ := box5 (box_put5 hbx2.out (.int .i64 0) (.int .i64 0) (.string ⟨#[]⟩) (.slice none 0 0) (.slice none 0 0) rfl).1
     refine bodyPost_ret (v := .tuple #[.agg #[.int .i64 0, .int .i64 0, .string ⟨#[]⟩, .slice none 0 0, .slice none 0 0], .int .i64 _, .int .i64 50]) (by simp [results, go_sem, p0, p1, p2, p3, p4]; first | rfl | done) rfl ?_
     exact ⟨⟨_, _, _, _, _, _, _, _, _, _, 50, rfl, Lib.hid fun e => absurd e (by decide), Lib.hid fun _ => ⟨sent_many HLX.out HEN.out HRD.out (by have := HNL.out; omega), rfl, rfl, rfl, rfl, rfl, rfl, rfl, rfl, rfl⟩⟩, (box_put5 hbx2.out _ _ _ _ _ rfl).2.2 _ _ (Nat.le_refl _) B2.out⟩
   ·have hne2 : (er2 != 0) = true := by simpa using he2
    obtain ⟨rfl, hre⟩ := hnil he2
    have HSE := Lib.hid (sent_err HLX.out HEN.out hre)
    clear hok2 hx hnil hre
    go_wp2_with fail
    all_goals
     obtain ⟨p0, p1, p2, p3, p4⟩ := box5 (box_put5 hbx2.out (.int .i64 0) (.int .i64 0) (.string ⟨#[]⟩) (.slice none 0 0) (.slice none 0 0) rfl).1
     refine bodyPost_ret (v := .tuple #[.agg #[.int .i64 0, .int .i64 0, .string ⟨#[]⟩, .slice none 0 0, .slice none 0 0], .int .i64 _, .int .i64 er2]) (by simp [results, go_sem, p0, p1, p2, p3, p4]; first | rfl | done) rfl ?_
     first
     | exact ⟨⟨_, _, _, _, _, _, _, _, _, min q (s.size : Int), er2, rfl, Lib.hid fun e => absurd e he2, Lib.hid fun _ => ⟨HSE.out, rfl, rfl, rfl, rfl, rfl, rfl, rfl, rfl, rfl⟩⟩, (box_put5 hbx2.out _ _ _ _ _ rfl).2.2 _ _ (Nat.le_refl _) B2.out⟩
     | exact ⟨⟨_, _, _, _, _, _, _, _, _, q, er2, rfl, Lib.hid fun e => absurd e he2, Lib.hid fun _ => ⟨by rw [HSE.out, show min q (s.size : Int) = q by omega], rfl, rfl, rfl, rfl, rfl, rfl, rfl, rfl, rfl⟩⟩, (box_put5 hbx2.out _ _ _ _ _ rfl).2.2 _ _ (Nat.le_refl _) B2.out⟩
     | exact ⟨⟨_, _, _, _, _, _, _, _, _, (s.size : Int), er2, rfl, Lib.hid fun e => absurd e he2, Lib.hid fun _ => ⟨by rw [HSE.out, show min q (s.size : Int) = (s.size : Int) by omega], rfl, rfl, rfl, rfl, rfl, rfl, rfl, rfl, rfl⟩⟩, (box_put5 hbx2.out _ _ _ _ _ rfl).2.2 _ _ (Nat.le_refl _) B2.out⟩
  ·obtain ⟨m, rfl⟩ : ∃ m, n = m + 1 := ⟨n - 1, by omega⟩
   obtain ⟨g, cur, rfl, _, hh, hcur⟩ := hx h0
   have hlm : m < l.length := by omega
   have hc0 : w1.cell? ⟨g, m * 4, none⟩ = some (.int .i64 (l[m]'hlm).k) := by
    rw [Nat.mul_comm m 4, cell_of_row w1 g (4 * m) _ _ _ hh, hcur (4 * m) (by omega)]
    simpa [Tk.cells] using tkCells_at l m hlm 0 (by omega)
   have HLA := Lib.hid (show l.getLast? = some (l[m]'hlm) by rw [List.getLast?_eq_getElem?, hl]; exact List.getElem?_eq_getElem hlm)
   obtain ⟨kk, hkk⟩ : ∃ kk, kk = (l[m]'hlm).k := ⟨_, rfl⟩
   rw [← hkk] at hc0
   have HKK := Lib.hid hkk
   clear hcur hh hkk
   cases hk6 : (kk != 6) with
   | true =>
    have HEN := Lib.hid (show endedN l s = s ++ ⟨#[32, 46]⟩ by
     unfold endedN
     rw [HLA.out]
     dsimp only
     rw [← HKK.out, if_neg (by simpa using hk6)])
    go_wp2_with fail
    refine (preadx_any _ _ ((B1.out.cell (p := ⟨1, 0, none⟩) hw0).trans HMX.out) (HTB.out.below B1.out) (HER.out.below B1.out) (HOP.out.below B1.out)).mono ?_
    rintro e w2 ⟨⟨v2, q, er2, rfl, hq⟩, h2⟩
    obtain ⟨hnil, hok2⟩ := readQ_split hq
    have hbx2 := Lib.hid ((h2.block _ (heap_lt hbx1.out)).trans hbx1.out)
    have B2 := Lib.hid (B1.out.trans (h2.mono B1.out.size))
    have hs1 := B1.out.size
    obtain ⟨x0, x1, x2, x3, x4⟩ := box5 hbx2.out
    have xf : ∀ j, w2.frozen? ⟨w.heap.size, j, none⟩ = false := fun j => by simp [World.frozen?, hbx2.out]
    clear h2 hq
    by_cases he2 : er2 = 0
    ·subst he2
     obtain ⟨n2, xs, ls, hread, hnl, hown2, h5, hn2, hnam⟩ := hok2 rfl
     have HRD := Lib.hid hread
     have HNL := Lib.hid hnl
     have hl2 := own_len hown2
     obtain ⟨A2, c2, rfl, hc2, hA2, _, hx2⟩ := own_open hown2
     clear hok2 hnil hown2 hread hnl
     by_cases h12 : n2 = 1
     ·subst h12
      obtain ⟨x, hls⟩ : ∃ x, ls = [x] := List.length_eq_one_iff.1 HNL.out.symm
      have HLS := Lib.hid hls
      have HX0 := Lib.hid (show sensT ls 0 = x.1 by rw [hls]; rfl)
      have HNA := Lib.hid (fun NA nn nc h4 => fun W hk => names_out (w := w) (W := W) (NA := NA) (nn := nn) (nc := nc) hnam hls h4 hs1 hbx2.out hk)
      clear hls hnam
      obtain ⟨g, cur, rfl, _, hh, hcur⟩ := hx2 (by omega)
      obtain ⟨v0, v1, v2, v3, NA, nn, nc, c0, c1, c2', c3, c4, htp, hgd, hnd⟩ := h5 0 (by omega)
      rw [HX0.out] at htp hgd hnd
      have hag := htp.agg
      obtain ⟨k0, k1, k2, A0, m0, cc0, hag⟩ := hag
      injection hag with hag
      simp only [Array.mk.injEq, List.cons.injEq, and_true] at hag
      obtain ⟨rfl, rfl, rfl, rfl⟩ := hag
      have hr := fun (j : Nat) (hj : j < 1 * 5) => (cell_of_row w2 g j _ _ _ hh).trans (hcur j hj)
      have z0 := (hr 0 (by omega)).trans c0
      have z1 := (hr 1 (by omega)).trans c1
      have z2 := (hr 2 (by omega)).trans c2'
      have z3 := (hr 3 (by omega)).trans c3
      have z4 := (hr 4 (by omega)).trans c4
      have HT := Lib.hid htp
      have HN4 := Lib.hid (HNA.out _ _ _ c4)
      clear HNA
      clear hr hcur hx2 hx htp h5 c0 c1 c2' c3 c4
      go_wp2_with fail
      have P := box_put5 hbx2.out (.int .i64 k0) (.int .i64 k1) (.string k2) (.slice A0 m0 cc0) (.slice NA nn nc) rfl
      obtain ⟨p0, p1, p2, p3, p4⟩ := box5 P.1
      refine bodyPost_ret (v := .tuple #[.agg #[.int .i64 k0, .int .i64 k1, .string k2, .slice A0 m0 cc0, .slice NA nn nc], .int .i64 0, .int .i64 0]) (by simp [results, go_sem, p0, p1, p2, p3, p4]) rfl ?_
      refine ⟨⟨_, _, _, _, _, _, _, _, _, _, _, rfl, Lib.hid fun _ => ⟨x.1, x.2, sent_one HLX.out HEN.out (by rw [HRD.out, HLS.out]), (HT.out.more fun b hb => Nat.le_trans hs1 hb).keep fun b cs f hS hb => ⟨(P.2.1 b ?_).trans hb, hS⟩, hgd, hnd, HN4.out _ P.2.1⟩, Lib.hid fun e => absurd rfl e⟩, P.2.2 _ _ (Nat.le_refl _) B2.out⟩
      rintro rfl
      rw [hbx2.out] at hb
      injection hb with hb
      injection hb with _ hb
      exact absurd hb (by decide)
     ·have h12' : ((n2 : Int) != 1) = true := by simp; omega
      clear hx2 h5 hx
      go_wp2_with fail
      obtain ⟨p0, p1, p2, p3, p4⟩ := box5 (box_put5 hbx2.out (.int .i64 0) (.int .i64 0) (.string ⟨#[]⟩) (.slice none 0 0) (.slice none 0 0) rfl).1
      refine bodyPost_ret (v := .tuple #[.agg #[.int .i64 0, .int .i64 0, .string ⟨#[]⟩, .slice none 0 0, .slice none 0 0], .int .i64 _, .int .i64 50]) (by simp [results, go_sem, p0, p1, p2, p3, p4]; first | rfl | done) rfl ?_
      exact ⟨⟨_, _, _, _, _, _, _, _, _, _, 50, rfl, Lib.hid fun e => absurd e (by decide), Lib.hid fun _ => ⟨sent_many HLX.out HEN.out HRD.out (by have := HNL.out; omega), rfl, rfl, rfl, rfl, rfl, rfl, rfl, rfl, rfl⟩⟩, (box_put5 hbx2.out _ _ _ _ _ rfl).2.2 _ _ (Nat.le_refl _) B2.out⟩
    ·have hne2 : (er2 != 0) = true := by simpa using he2
     obtain ⟨rfl, hre⟩ := hnil he2
     have HSE := Lib.hid (sent_err HLX.out HEN.out hre)
     clear hok2 hx hnil hre
     go_wp2_with fail
     all_goals
      obtain ⟨p0, p1, p2, p3, p4⟩ := box5 (box_put5 hbx2.out (.int .i64 0) (.int .i64 0) (.string ⟨#[]⟩) (.slice none 0 0) (.slice none 0 0) rfl).1
      refine bodyPost_ret (v := .tuple #[.agg #[.int .i64 0, .int .i64 0, .string ⟨#[]⟩, .slice none 0 0, .slice none 0 0], .int .i64 _, .int .i64 er2]) (by simp [results, go_sem, p0, p1, p2, p3, p4]; first | rfl | done) rfl ?_
      first
      | exact ⟨⟨_, _, _, _, _, _, _, _, _, min q (s.size : Int), er2, rfl, Lib.hid fun e => absurd e he2, Lib.hid fun _ => ⟨HSE.out, rfl, rfl, rfl, rfl, rfl, rfl, rfl, rfl, rfl⟩⟩, (box_put5 hbx2.out _ _ _ _ _ rfl).2.2 _ _ (Nat.le_refl _) B2.out⟩
      | exact ⟨⟨_, _, _, _, _, _, _, _, _, q, er2, rfl, Lib.hid fun e => absurd e he2, Lib.hid fun _ => ⟨by rw [HSE.out, show min q (s.size : Int) = q by omega], rfl, rfl, rfl, rfl, rfl, rfl, rfl, rfl, rfl⟩⟩, (box_put5 hbx2.out _ _ _ _ _ rfl).2.2 _ _ (Nat.le_refl _) B2.out⟩
      | exact ⟨⟨_, _, _, _, _, _, _, _, _, (s.size : Int), er2, rfl, Lib.hid fun e => absurd e he2, Lib.hid fun _ => ⟨by rw [HSE.out, show min q (s.size : Int) = (s.size : Int) by omega], rfl, rfl, rfl, rfl, rfl, rfl, rfl, rfl, rfl⟩⟩, (box_put5 hbx2.out _ _ _ _ _ rfl).2.2 _ _ (Nat.le_refl _) B2.out⟩
   | false =>
    have HEN := Lib.hid (show endedN l s = s by
     unfold endedN
     rw [HLA.out]
     dsimp only
     rw [← HKK.out, if_pos (by simpa using hk6)])
    go_wp2_with fail
    refine (preadx_any _ _ ((B1.out.cell (p := ⟨1, 0, none⟩) hw0).trans HMX.out) (HTB.out.below B1.out) (HER.out.below B1.out) (HOP.out.below B1.out)).mono ?_
    rintro e w2 ⟨⟨v2, q, er2, rfl, hq⟩, h2⟩
    obtain ⟨hnil, hok2⟩ := readQ_split hq
    have hbx2 := Lib.hid ((h2.block _ (heap_lt hbx1.out)).trans hbx1.out)
    have B2 := Lib.hid (B1.out.trans (h2.mono B1.out.size))
    have hs1 := B1.out.size
    obtain ⟨x0, x1, x2, x3, x4⟩ := box5 hbx2.out
    have xf : ∀ j, w2.frozen? ⟨w.heap.size, j, none⟩ = false := fun j => by simp [World.frozen?, hbx2.out]
    clear h2 hq
    by_cases he2 : er2 = 0
    ·subst he2
     obtain ⟨n2, xs, ls, hread, hnl, hown2, h5, hn2, hnam⟩ := hok2 rfl
     have HRD := Lib.hid hread
     have HNL := Lib.hid hnl
     have hl2 := own_len hown2
     obtain ⟨A2, c2, rfl, hc2, hA2, _, hx2⟩ := own_open hown2
     clear hok2 hnil hown2 hread hnl
     by_cases h12 : n2 = 1
     ·subst h12
      obtain ⟨x, hls⟩ : ∃ x, ls = [x] := List.length_eq_one_iff.1 HNL.out.symm
      have HLS := Lib.hid hls
      have HX0 := Lib.hid (show sensT ls 0 = x.1 by rw [hls]; rfl)
      have HNA := Lib.hid (fun NA nn nc h4 => fun W hk => names_out (w := w) (W := W) (NA := NA) (nn := nn) (nc := nc) hnam hls h4 hs1 hbx2.out hk)
      clear hls hnam
      obtain ⟨g, cur, rfl, _, hh, hcur⟩ := hx2 (by omega)
      obtain ⟨v0, v1, v2, v3, NA, nn, nc, c0, c1, c2', c3, c4, htp, hgd, hnd⟩ := h5 0 (by omega)
      rw [HX0.out] at htp hgd hnd
      have hag := htp.agg
      obtain ⟨k0, k1, k2, A0, m0, cc0, hag⟩ := hag
      injection hag with hag
      simp only [Array.mk.injEq, List.cons.injEq, and_true] at hag
      obtain ⟨rfl, rfl, rfl, rfl⟩ := hag
      have hr := fun (j : Nat) (hj : j < 1 * 5) => (cell_of_row w2 g j _ _ _ hh).trans (hcur j hj)
      have z0 := (hr 0 (by omega)).trans c0
      have z1 := (hr 1 (by omega)).trans c1
      have z2 := (hr 2 (by omega)).trans c2'
      have z3 := (hr 3 (by omega)).trans c3
      have z4 := (hr 4 (by omega)).trans c4
      have HT := Lib.hid htp
      have HN4 := Lib.hid (HNA.out _ _ _ c4)
      clear HNA
      clear hr hcur hx2 hx htp h5 c0 c1 c2' c3 c4
      go_wp2_with fail
      have P := box_put5 hbx2.out (.int .i64 k0) (.int .i64 k1) (.string k2) (.slice A0 m0 cc0) (.slice NA nn nc) rfl
      obtain ⟨p0, p1, p2, p3, p4⟩ := box5 P.1
      refine bodyPost_ret (v := .tuple #[.agg #[.int .i64 k0, .int .i64 k1, .string k2, .slice A0 m0 cc0, .slice NA nn nc], .int .i64 0, .int .i64 0]) (by simp [results, go_sem, p0, p1, p2, p3, p4]) rfl ?_
      refine ⟨⟨_, _, _, _, _, _, _, _, _, _, _, rfl, Lib.hid fun _ => ⟨x.1, x.2, sent_one HLX.out HEN.out (by rw [HRD.out, HLS.out]), (HT.out.more fun b hb => Nat.le_trans hs1 hb).keep fun b cs f hS hb => ⟨(P.2.1 b ?_).trans hb, hS⟩, hgd, hnd, HN4.out _ P.2.1⟩, Lib.hid fun e => absurd rfl e⟩, P.2.2 _ _ (Nat.le_refl _) B2.out⟩
      rintro rfl
      rw [hbx2.out] at hb
      injection hb with hb
      injection hb with _ hb
      exact absurd hb (by decide)
     ·have h12' : ((n2 : Int) != 1) = true := by simp; omega
      clear hx2 h5 hx
      go_wp2_with fail
      obtain ⟨p0, p1, p2, p3, p4⟩ := box5 (box_put5 hbx2.out (.int .i64 0) (.int .i64 0) (.string ⟨#[]⟩) (.slice none 0 0) (.slice none 0 0) rfl).1
      refine bodyPost_ret (v := .tuple #[.agg #[.int .i64 0, .int .i64 0, .string ⟨#[]⟩, .slice none 0 0, .slice none 0 0], .int .i64 _, .int .i64 50]) (by simp [results, go_sem, p0, p1, p2, p3, p4]; first | rfl | done) rfl ?_
      exact ⟨⟨_, _, _, _, _, _, _, _, _, _, 50, rfl, Lib.hid fun e => absurd e (by decide), Lib.hid fun _ => ⟨sent_many HLX.out HEN.out HRD.out (by have := HNL.out; omega), rfl, rfl, rfl, rfl, rfl, rfl, rfl, rfl, rfl⟩⟩, (box_put5 hbx2.out _ _ _ _ _ rfl).2.2 _ _ (Nat.le_refl _) B2.out⟩
    ·have hne2 : (er2 != 0) = true := by simpa using he2
     obtain ⟨rfl, hre⟩ := hnil he2
     have HSE := Lib.hid (sent_err HLX.out HEN.out hre)
     clear hok2 hx hnil hre
     go_wp2_with fail
     all_goals
      obtain ⟨p0, p1, p2, p3, p4⟩ := box5 (box_put5 hbx2.out (.int .i64 0) (.int .i64 0) (.string ⟨#[]⟩) (.slice none 0 0) (.slice none 0 0) rfl).1
      refine bodyPost_ret (v := .tuple #[.agg #[.int .i64 0, .int .i64 0, .string ⟨#[]⟩, .slice none 0 0, .slice none 0 0], .int .i64 _, .int .i64 er2]) (by simp [results, go_sem, p0, p1, p2, p3, p4]; first | rfl | done) rfl ?_
      first
      | exact ⟨⟨_, _, _, _, _, _, _, _, _, min q (s.size : Int), er2, rfl, Lib.hid fun e => absurd e he2, Lib.hid fun _ => ⟨HSE.out, rfl, rfl, rfl, rfl, rfl, rfl, rfl, rfl, rfl⟩⟩, (box_put5 hbx2.out _ _ _ _ _ rfl).2.2 _ _ (Nat.le_refl _) B2.out⟩
      | exact ⟨⟨_, _, _, _, _, _, _, _, _, q, er2, rfl, Lib.hid fun e => absurd e he2, Lib.hid fun _ => ⟨by rw [HSE.out, show min q (s.size : Int) = q by omega], rfl, rfl, rfl, rfl, rfl, rfl, rfl, rfl, rfl⟩⟩, (box_put5 hbx2.out _ _ _ _ _ rfl).2.2 _ _ (Nat.le_refl _) B2.out⟩
      | exact ⟨⟨_, _, _, _, _, _, _, _, _, (s.size : Int), er2, rfl, Lib.hid fun e => absurd e he2, Lib.hid fun _ => ⟨by rw [HSE.out, show min q (s.size : Int) = (s.size : Int) by omega], rfl, rfl, rfl, rfl, rfl, rfl, rfl, rfl, rfl⟩⟩, (box_put5 hbx2.out _ _ _ _ _ rfl).2.2 _ _ (Nat.le_refl _) B2.out⟩
 ·have hne : (er != 0) = true := by simpa using he
  have HSB := Lib.hid (show sentN s = .error (p, er) by
   unfold TokQ at hok
   cases hL : lexN s with
   | ok l => rw [hL] at hok; exact absurd hok.2.1 he
   | bad q e =>
    rw [hL] at hok
    obtain ⟨_, rfl, rfl, _⟩ := hok
    exact sent_bad hL)
  clear hok
  go_wp2_with fail
  obtain ⟨p0, p1, p2, p3, p4⟩ := box5 (box_put5 hbx1.out (.int .i64 0) (.int .i64 0) (.string ⟨#[]⟩) (.slice none 0 0) (.slice none 0 0) rfl).1
  refine bodyPost_ret (v := .tuple #[.agg #[.int .i64 0, .int .i64 0, .string ⟨#[]⟩, .slice none 0 0, .slice none 0 0], .int .i64 _, .int .i64 er]) (by simp [results, go_sem, p0, p1, p2, p3, p4]; first | rfl | done) rfl ?_
  exact ⟨⟨_, _, _, _, _, _, _, _, _, _, er, rfl, Lib.hid fun e => absurd e he, Lib.hid fun _ => ⟨HSB.out, rfl, rfl, rfl, rfl, rfl, rfl, rfl, rfl, rfl⟩⟩, (box_put5 hbx1.out _ _ _ _ _ rfl).2.2 _ _ (Nat.le_refl _) B1.out⟩
end Go.Proofs.YtlogcealmiokkaaGreatDoor
namespace Go.Proofs.YtlogcealmiokkaaGreatDoor
open Go.RowKit
theorem two_boxes (w : World) (o1 o2 : Obj) : ((w.alloc o1).alloc o2).heap[w.heap.size]? = some o1 ∧ ((w.alloc o1).alloc o2).heap[w.heap.size + 1]? = some o2 := by
 constructor
 ·exact (Below.heap_alloc _ _ _ (by simp)).trans (heap_alloc_new w o1)
 ·have := heap_alloc_new (w.alloc o1) o2
  rwa [show (w.alloc o1).heap.size = w.heap.size + 1 by simp] at this
theorem sum_has : ∀ {m : Nat} {f : Nat → Nat} {i : Nat}, i < m → f i ≤ sumTo m f
 | m + 1, f, i, h => by
  simp only [sumTo]
  rcases Nat.lt_or_ge i m with h1 | h1
  ·have := sum_has (f := f) h1; omega
  ·obtain rfl : i = m := by omega
   omega
theorem sum_one : ∀ {m : Nat} {f : Nat → Nat}, (∀ i, i < m → 1 ≤ f i) → m ≤ sumTo m f
 | 0, _, _ => Nat.zero_le _
 | m + 1, f, h => by
  simp only [sumTo]
  have := sum_one (m := m) (f := f) fun i hi => h i (by omega)
  have := h m (by omega)
  omega
set_option maxRecDepth 100000 in
set_option maxHeartbeats 8000000 in
theorem same_any : ∀ (t : T) (va vb : Value) (w : World), TIn w w.heap.size t va → TIn w w.heap.size t vb → t.nodes ≤ 20000 →
 Calls Tryz.prog 16 #[va, vb] w fun e w' => e = .returned (.bool true) ∧ Below w.heap.size w w' := by
 intro t
 induction t with
 | nil => exact fun _ _ _ h => h.elim
 | mk k n s m a ih =>
  intro va vb w hva hvb hN
  obtain ⟨A, c, rfl, ta⟩ := hva.open_
  obtain ⟨A2, c2, rfl, tb⟩ := hvb.open_
  have HA := Lib.hid ta
  have HU := Lib.hid tb
  have hm5 : m ≤ 20000 := by
   have h1 : m ≤ sumTo m fun i => (a i).nodes := sum_one fun i hi => by
    obtain ⟨b, off, _, _, hx⟩ := ta.cells (by omega)
    obtain ⟨_, _, _, _, _, _, _, _, ht⟩ := hx i hi
    cases h : a i with
    | nil => rw [h] at ht; exact ht.elim
    | mk => simp only [T.nodes]; omega
   simp only [T.nodes] at hN
   omega
  have HLN := Lib.hid (show ∀ i, i < m → (a i).nodes ≤ 20000 from fun i hi => by
   have h1 := sum_has (f := fun i => (a i).nodes) hi
   simp only [T.nodes] at hN
   omega)
  have BX := Lib.hid (((Below.refl w.heap.size w).alloc (Nat.le_refl _) (Obj.cells #[.int .i64 k, .int .i64 n, .string s, .slice A m c] 31)).alloc (by simp) (Obj.cells #[.int .i64 k, .int .i64 n, .string s, .slice A2 m c2] 31))
  have XB := Lib.hid (two_boxes w (Obj.cells #[.int .i64 k, .int .i64 n, .string s, .slice A m c] 31) (Obj.cells #[.int .i64 k, .int .i64 n, .string s, .slice A2 m c2] 31)).1
  have XC := Lib.hid (two_boxes w (Obj.cells #[.int .i64 k, .int .i64 n, .string s, .slice A m c] 31) (Obj.cells #[.int .i64 k, .int .i64 n, .string s, .slice A2 m c2] 31)).2
  have IH := Lib.hid ih
  clear hva hvb ih hN ta tb
  go_enter Tryz.func16, Tryz.ntmps16
  go_wp2_with fail
  go_loopw [5] (fun iv wr => ∃ (i : Nat), iv = .int .i64 (i : Int) ∧ i ≤ m ∧ Below w.heap.size w wr ∧ wr.heap[w.heap.size]? = some (.cells #[.int .i64 k, .int .i64 n, .string s, .slice A m c] 31 (0, 0)) ∧ wr.heap[w.heap.size + 1]? = some (.cells #[.int .i64 k, .int .i64 n, .string s, .slice A2 m c2] 31 (0, 0))) (fun iv _ => m - (intOf iv).toNat)
  case atStart => exact ⟨0, rfl, Nat.zero_le _, BX.out, XB.out, XC.out⟩
  case round =>
   obtain ⟨i, rfl, hi, hb, hxb, hxc⟩ := hrel
   have HB := Lib.hid hb
   have HXB := Lib.hid hxb
   have HXC := Lib.hid hxc
   obtain ⟨_, _, _, x3⟩ := box4t hxb
   obtain ⟨_, _, _, y3⟩ := box4t hxc
   have hl1 := heap_lt hxc
   clear hb hxb hxc BX XB XC
   by_cases him : i < m
   ·have him' : (i : Int) < (m : Int) := by omega
    obtain ⟨g, o, rfl, hg, hargs⟩ := HA.out.cells (by omega)
    obtain ⟨u0, u1, u2, u3, d0, d1, d2, d3, hta⟩ := hargs i him
    obtain ⟨g2, o2, rfl, hg2, hargs2⟩ := HU.out.cells (by omega)
    obtain ⟨v0, v1, v2, v3, f0, f1, f2, f3, htb⟩ := hargs2 i him
    rw [Nat.mul_comm 4 i] at d0 d1 d2 d3 f0 f1 f2 f3
    have KP := Lib.hid (show ∀ W, Below wr.heap.size wr W → W.cell? ⟨w.heap.size, 3, none⟩ = some (.slice (some ⟨g, o, none⟩) m c) ∧ W.cell? ⟨w.heap.size + 1, 3, none⟩ = some (.slice (some ⟨g2, o2, none⟩) m c2) ∧ W.cell? ⟨g, o + i * 4, none⟩ = some u0 ∧ W.cell? ⟨g, o + i * 4 + 1, none⟩ = some u1 ∧ W.cell? ⟨g, o + i * 4 + 2, none⟩ = some u2 ∧ W.cell? ⟨g, o + i * 4 + 3, none⟩ = some u3 ∧ W.cell? ⟨g2, o2 + i * 4, none⟩ = some v0 ∧ W.cell? ⟨g2, o2 + i * 4 + 1, none⟩ = some v1 ∧ W.cell? ⟨g2, o2 + i * 4 + 2, none⟩ = some v2 ∧ W.cell? ⟨g2, o2 + i * 4 + 3, none⟩ = some v3 from fun W hw => by
     have r := fun (j : Nat) => (hw.cell (p := ⟨g, j, none⟩) (by show g < wr.heap.size; have := HB.out.size; omega)).trans (HB.out.cell (p := ⟨g, j, none⟩) hg)
     have r' := fun (j : Nat) => (hw.cell (p := ⟨g2, j, none⟩) (by show g2 < wr.heap.size; have := HB.out.size; omega)).trans (HB.out.cell (p := ⟨g2, j, none⟩) hg2)
     exact ⟨(hw.cell (p := ⟨w.heap.size, 3, none⟩) (by show w.heap.size < wr.heap.size; omega)).trans x3, (hw.cell (p := ⟨w.heap.size + 1, 3, none⟩) hl1).trans y3, (r _).trans d0, (r _).trans d1, (r _).trans d2, (r _).trans d3, (r' _).trans f0, (r' _).trans f1, (r' _).trans f2, (r' _).trans f3⟩)
    have hgl : g < wr.heap.size := by have := HB.out.size; omega
    have hgl2 : g2 < wr.heap.size := by have := HB.out.size; omega
    have b0 := (Below.refl wr.heap.size wr).drew
    have CI := Lib.hid (IH.out i _ _ wr.drew ((hta.below (HB.out.drew)).more (show w.heap.size ≤ wr.drew.heap.size from HB.out.size)) ((htb.below (HB.out.drew)).more (show w.heap.size ≤ wr.drew.heap.size from HB.out.size)) (HLN.out i him))
    clear hargs hargs2 d0 d1 d2 d3 f0 f1 f2 f3 hta htb
    go_wp2_with fail
    go_region_held3 (fun W => W.cell? ⟨w.heap.size, 3, none⟩ = some (.slice (some ⟨g, o, none⟩) m c) ∧ W.cell? ⟨w.heap.size + 1, 3, none⟩ = some (.slice (some ⟨g2, o2, none⟩) m c2) ∧ W.cell? ⟨g, o + i * 4, none⟩ = some u0 ∧ W.cell? ⟨g, o + i * 4 + 1, none⟩ = some u1 ∧ W.cell? ⟨g, o + i * 4 + 2, none⟩ = some u2 ∧ W.cell? ⟨g, o + i * 4 + 3, none⟩ = some u3 ∧ W.cell? ⟨g2, o2 + i * 4, none⟩ = some v0 ∧ W.cell? ⟨g2, o2 + i * 4 + 1, none⟩ = some v1 ∧ W.cell? ⟨g2, o2 + i * 4 + 2, none⟩ = some v2 ∧ W.cell? ⟨g2, o2 + i * 4 + 3, none⟩ = some v3)
     (first | (with_reducible exact KP.out _ b0) | (with_reducible exact KP.out _ b5))
     (((with_reducible refine CI.out.mono ?_); rintro e w5 ⟨rfl, h5⟩; have b5 := b0.trans h5))
    have B5 := Lib.hid (HB.out.trans (b5.mono HB.out.size))
    have X5 := Lib.hid ((b5.block _ (by omega)).trans HXB.out)
    have Y5 := Lib.hid ((b5.block _ hl1).trans HXC.out)
    clear h5 b5 b0 x3 y3
    go_wp2_with fail
    go_roundw
    case rel => exact ⟨i + 1, by go_num, him, B5.out, X5.out, Y5.out⟩
    case measure => simp [intOf]; omega
   ·obtain rfl : i = m := by omega
    go_wp2_with fail
    refine bodyPost_ret (v := .bool true) (by simp [results, go_sem]) rfl ?_
    exact ⟨rfl, HB.out⟩
end Go.Proofs.YtlogcealmiokkaaGreatDoor
namespace Go.Proofs.YtlogcealmiokkaaGreatDoor
open Go.RowKit
def Bs (w : World) : Prop := (∃ mx, w.cell? ⟨1, 0, none⟩ = some (.int .i64 mx)) ∧ TabX w ∧ ErrX w ∧ TableX w
theorem Bs.below {w w' : World} (h : Bs w) (hb : Below w.heap.size w w') : Bs w' := by
 obtain ⟨⟨mx, h1⟩, h2, h3, h4⟩ := h
 exact ⟨⟨mx, (hb.cell (World.block_lt_of_cell? w _ h1)).trans h1⟩, h2.below hb, h3.below hb, h4.below hb⟩
theorem Bs.one {w : World} (h : Bs w) (s : ByteArray) : Calls Tryz.prog 13 #[.string s] w fun e w' => OneN s w e w' := by
 obtain ⟨⟨mx, h1⟩, h2, h3, h4⟩ := h
 exact ponexn_any s w h1 h2 h3 h4
theorem Bs.read {w : World} (h : Bs w) (s : ByteArray) : Calls Tryz.prog 9 #[.string s] w fun e w' =>
 (∃ (v : Value) (p er : Int), e = .returned (.tuple #[v, .int .i64 p, .int .i64 er]) ∧ ReadPQ s w.heap.size w' v p er) ∧ Below w.heap.size w w' := by
 obtain ⟨⟨mx, h1⟩, h2, h3, h4⟩ := h
 exact pread_any s w h1 h2 h3 h4
def OneOk (t : T) (ns : List ByteArray) (w : World) (e : Ending) (w' : World) : Prop := ∃ (k n : Int) (nm : ByteArray) (A : Option Addr) (m c : Nat) (NA : Option Addr) (nn nc : Nat) (p : Int),
 e = .returned (.tuple #[.agg #[.int .i64 k, .int .i64 n, .string nm, .slice A m c, .slice NA nn nc], .int .i64 p, .int .i64 0]) ∧ TP w' (fun b => w.heap.size ≤ b) t (.agg #[.int .i64 k, .int .i64 n, .string nm, .slice A m c]) ∧
  t.good ∧ t.nodes ≤ 1000 ∧ w'.ownsRow w.heap.size 9 1 (.slice NA nn nc) nn (ns.map Value.string) ∧ nn ≤ 1000 ∧ Below w.heap.size w w'
theorem OneN.ok {s : ByteArray} {w w' : World} {e : Ending} {t : T} {ns : List ByteArray} (h : OneN s w e w') (hs : sentN s = .ok (t, ns)) : OneOk t ns w e w' := by
 obtain ⟨⟨k, n, nm, A, m, c, NA, nn, nc, p, er, rfl, h0, h1⟩, hb⟩ := h
 obtain rfl : er = 0 := by
  by_cases he : er = 0
  ·exact he
  ·have := (h1.out he).1
   rw [hs] at this
   cases this
 obtain ⟨t', ns', h2, h3, h4, h5, h6, h7⟩ := h0.out rfl
 rw [hs] at h2
 injection h2 with h2
 injection h2 with h2 h8
 subst h2 h8
 exact ⟨k, n, nm, A, m, c, NA, nn, nc, p, rfl, h3, h4, h5, h6, h7, hb⟩
def OneEr (er : Int) (w : World) (e : Ending) (w' : World) : Prop := er ≠ 0 ∧ ∃ p : Int,
 e = .returned (.tuple #[.agg #[.int .i64 0, .int .i64 0, .string ⟨#[]⟩, .slice none 0 0, .slice none 0 0], .int .i64 p, .int .i64 er]) ∧ Below w.heap.size w w'
theorem OneN.er {s : ByteArray} {w w' : World} {e : Ending} {p er : Int} (h : OneN s w e w') (hs : sentN s = .error (p, er)) : OneEr er w e w' := by
 obtain ⟨⟨k, n, nm, A, m, c, NA, nn, nc, q, e1, rfl, h0, h1⟩, hb⟩ := h
 by_cases he : e1 = 0
 ·obtain ⟨t', ns', h2, _⟩ := h0.out he
  rw [hs] at h2
  cases h2
 ·obtain ⟨h2, rfl, rfl, rfl, rfl, rfl, rfl, rfl, rfl, rfl⟩ := h1.out he
  rw [hs] at h2
  injection h2 with h2
  injection h2 with h2 h3
  subst h2 h3
  exact ⟨he, p, rfl, hb⟩
theorem I64.ok {n : Int} (h : I64 n) : -9223372036854775808 ≤ n ∧ n ≤ 9223372036854775807 := h
end Go.Proofs.YtlogcealmiokkaaGreatDoor
namespace Go.Proofs.YtlogcealmiokkaaGreatDoor
open Go.RowKit
def UIn (w : World) (S : Nat) (l : List Int) (v : Value) : Prop := ∃ A c, v = .slice A l.length c ∧ (0 < l.length → ∃ g o, A = some ⟨g, o, none⟩ ∧ g < S ∧ ∀ i x, l[i]? = some x → w.cell? ⟨g, o + i, none⟩ = some (.int .u8 x))
end Go.Proofs.YtlogcealmiokkaaGreatDoor
