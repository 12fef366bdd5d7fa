/- The walks through coneylaw11: clause, whole. -/
import Derived.Test.YtlgeepjlnjlgdaaDoorCo3
import Derived.Test.YtlgeepjlnjlgdaaDoorRd14
import Derived.Test.YtlgeepjlnjlgdaaDoorGf
namespace Go.Proofs.YtlgeepjlnjlgdaaDoor
open Go.RowKit

/-- Such a row stands where its blocks stand. -/
theorem TL.keep {w w' : World} {B : Nat} {S P : Nat → Prop} {v : Value} {l : List T} {qs : List Q6} (h : TL w B S P v l qs) (hs : w.heap.size ≤ w'.heap.size) (hk : ∀ b, b < w.heap.size → (S b ∨ B ≤ b) → w'.heap[b]? = w.heap[b]?) : TL w' B S P v l qs :=
  ⟨h.len, own_keep h.own fun g hg => hk g (h.own.lt g hg).2 (.inr (h.own.lt g hg).1), fun i h1 h2 => (h.tp i h1 h2).keep fun b _ _ hS hh => ⟨(hk b (heap_lt hh) (hS.imp id fun hP => (h.lo b hP).1)).trans hh, hS⟩, fun b hP => ⟨(h.lo b hP).1, Nat.lt_of_lt_of_le (h.lo b hP).2 hs⟩, h.off, h.NB⟩
/-- What clause hands back. -/
def ClP (w : World) (e : Ending) (w' : World) : Prop :=
  (∃ (h0 h1 : Int) (h2 : ByteArray) (h3 : Option Addr) (h4 h5 : Nat) (gv : Value) (is : Bool), e = .returned (.tuple #[.agg #[.int .i64 h0, .int .i64 h1, .string h2, .slice h3 h4 h5], gv, .bool is]) ∧
    ((is = false ∧ gv = .slice none 0 0) ∨ (is = true ∧ ∃ (th : T) (gs : List T) (B : Nat) (S P : Nat → Prop) (qs : List Q6), (∀ b, S b → b < w'.heap.size) ∧ B ≤ w'.heap.size ∧ TP w' S th (.agg #[.int .i64 h0, .int .i64 h1, .string h2, .slice h3 h4 h5]) ∧ TL w' B S P gv gs qs ∧ th.good ∧ (∀ g ∈ gs, g.good) ∧ th.nodes ≤ 1001 ∧ nodesL gs ≤ 2002 ∧ Hid (th.kindC ∧ th.nodes ≤ 1000 ∧ (∀ g ∈ gs, g.kindC ∧ g.nodes ≤ 1000) ∧ th.nodes + gs.length + nodesL gs ≤ 3010)))) ∧ Below w.heap.size w w'
set_option maxRecDepth 100000 in
set_option maxHeartbeats 4000000 in
theorem clause_any (s : ByteArray) (w : World) : Calls Tryd.prog 5 #[.string s] w fun e w' => ClP w e w' := by
  have HB0 := Lib.hid (heap_alloc_new w (Obj.cells #[.int .i64 0, .int .i64 0, .string ⟨#[]⟩, .slice none 0 0] 24))
  have BX := Lib.hid (belA (Below.refl w.heap.size w) (Obj.cells #[.int .i64 0, .int .i64 0, .string ⟨#[]⟩, .slice none 0 0] 24))
  have zero : ∀ (W : World), W.heap[w.heap.size]? = some (.cells #[.int .i64 0, .int .i64 0, .string ⟨#[]⟩, .slice none 0 0] 24 (0, 0)) → Below w.heap.size w W →
      (W.cell? ⟨w.heap.size, 0, none⟩ = some (.int .i64 0) ∧ W.cell? ⟨w.heap.size, 1, none⟩ = some (.int .i64 0) ∧ W.cell? ⟨w.heap.size, 2, none⟩ = some (.string ⟨#[]⟩) ∧ W.cell? ⟨w.heap.size, 3, none⟩ = some (.slice none 0 0)) ∧ ClP w (.returned (.tuple #[.agg #[.int .i64 0, .int .i64 0, .string ⟨#[]⟩, .slice none 0 0], .slice none 0 0, .bool false])) W := fun W hW hB =>
    ⟨box4t hW, ⟨⟨_, _, _, _, _, _, _, _, rfl, .inl ⟨rfl, rfl⟩⟩, hB⟩⟩
  have ZERO := Lib.hid zero
  clear zero
  by_cases hs : (1024 : Int) < (s.size : Int)
  · obtain ⟨x0, x1, x2, x3⟩ := box4t HB0.out
    go_enter Tryd.func5, Tryd.ntmps5
    go_wp2_with fail
    obtain ⟨⟨p0, p1, p2, p3⟩, hz⟩ := ZERO.out _ HB0.out BX.out
    refine bodyPost_ret (v := .tuple #[.agg #[.int .i64 0, .int .i64 0, .string ⟨#[]⟩, .slice none 0 0], .slice none 0 0, .bool false]) (by simp [results, go_sem]) rfl ?_
    exact hz
  go_enter Tryd.func5, Tryd.ntmps5
  go_wp2_with fail
  refine (one_any s _).mono ?_
  rintro e w1 ⟨⟨k, n, tx, A, m, c, NA, nn, nc, p, er, rfl, hok⟩, h1⟩
  have HB1 := Lib.hid ((h1.block w.heap.size (by simp)).trans HB0.out)
  have B1 := Lib.hid (BX.out.trans (h1.mono BX.out.size))
  have hl1 := heap_lt HB1.out
  have zf : ∀ j, w1.frozen? ⟨w.heap.size, j, none⟩ = false := fun j => by simp [World.frozen?, HB1.out]
  obtain ⟨x0, x1, x2, x3⟩ := box4t HB1.out
  have OKR := Lib.hid hok
  clear hok h1
  cases her : (er == 0) with
  | false =>
    go_wp2_with fail
    have P1 := box_put4 HB1.out (.int .i64 0) (.int .i64 0) (.string ⟨#[]⟩) (.slice none 0 0) rfl
    have PB := P1.2.2.2 _ _ (Nat.le_refl _) B1.out
    have hz := ZERO.out _ ((Below.heap_alloc _ (Obj.cells #[.int .i64 k, .int .i64 n, .string tx, .slice A m c, .slice NA nn nc] 41) _ (heap_lt P1.1)).trans P1.1) (belA PB _)
    obtain ⟨p0, p1, p2, p3⟩ := hz.1
    refine bodyPost_ret (v := .tuple #[.agg #[.int .i64 0, .int .i64 0, .string ⟨#[]⟩, .slice none 0 0], .slice none 0 0, .bool false]) (by simp [results, go_sem, p0, p1, p2, p3]) rfl ?_
    exact hz.2
  | true =>
    obtain ⟨t, ht, hgd, hnd⟩ := OKR.out (by simpa using her)
    obtain ⟨W1, hW1⟩ : ∃ W1, W1 = w1.alloc (Obj.cells #[.int .i64 k, .int .i64 n, .string tx, .slice A m c, .slice NA nn nc] 41) := ⟨_, rfl⟩
    have hz1 : W1.heap.size = w1.heap.size + 1 := by rw [hW1]; simp
    have BW := Lib.hid (show Below w1.heap.size w1 W1 by rw [hW1]; exact (Below.refl _ _).alloc (Nat.le_refl _) _)
    have HBs := Lib.hid (show W1.heap[w1.heap.size]? = some (.cells #[.int .i64 k, .int .i64 n, .string tx, .slice A m c, .slice NA nn nc] 41 (0, 0)) by rw [hW1]; exact heap_alloc_new _ _)
    have TW := Lib.hid ((ht.old.more (S' := fun b => w.heap.size < b ∧ b < w1.heap.size) fun b hb => ⟨by have := hb.1; simp at this; omega, hb.2⟩).below BW.out)
    have OKT := Lib.hid (show t.ok from ⟨hgd, by omega⟩)
    have ND := Lib.hid hnd
    have CS := Lib.hid (split_any OKT.out (S := fun b => w.heap.size < b ∧ b < w1.heap.size) (fun b hb => by have := hb.2; omega) TW.out)
    have HB2 := Lib.hid ((BW.out.block w.heap.size hl1).trans HB1.out)
    have B2 := Lib.hid (B1.out.trans (BW.out.mono B1.out.size))
    have HW1 := Lib.hid hW1
    clear ht hgd hnd hW1
    go_wp2_with fail
    rw [← HW1.out]
    refine CS.out.mono ?_
    rintro e w3 ⟨⟨h0, h1, h2, h3, h4, h5, b0, b1, b2, b3, b4, b5, er2, rfl, hsp⟩, hx⟩
    have HB3 := Lib.hid ((hx.block w.heap.size (heap_lt HB2.out)).trans HB2.out)
    have B3 := Lib.hid (B2.out.trans (hx.mono B2.out.size))
    have hl3 := heap_lt HB3.out
    have hs3 := hx.size
    have SP := Lib.hid hsp
    clear hsp hx CS x0 x1 x2 x3 zf
    have zf : ∀ j, w3.frozen? ⟨w.heap.size, j, none⟩ = false := fun j => by simp [World.frozen?, HB3.out]
    obtain ⟨x0, x1, x2, x3⟩ := box4t HB3.out
    cases her2 : (er2 == 0) with
    | false =>
      go_wp2_with fail
      have P1 := box_put4 HB3.out (.int .i64 0) (.int .i64 0) (.string ⟨#[]⟩) (.slice none 0 0) rfl
      have PB := P1.2.2.2 _ _ (Nat.le_refl _) B3.out
      have hz := ZERO.out _ ((Below.heap_alloc _ (Obj.cells #[.int .i64 b0, .int .i64 b1, .string b2, .slice b3 b4 b5] 24) _ (by simp; omega)).trans ((Below.heap_alloc _ (Obj.cells #[.int .i64 h0, .int .i64 h1, .string h2, .slice h3 h4 h5] 24) _ (heap_lt P1.1)).trans P1.1)) (belA (belA PB _) _)
      obtain ⟨p0, p1, p2, p3⟩ := hz.1
      refine bodyPost_ret (v := .tuple #[.agg #[.int .i64 0, .int .i64 0, .string ⟨#[]⟩, .slice none 0 0], .slice none 0 0, .bool false]) (by simp [results, go_sem, p0, p1, p2, p3]) rfl ?_
      exact hz.2
    | true =>
      obtain ⟨th, tb, htp, btp, hgd, bgd, hsum, HKN⟩ := SP.out (by simpa using her2)
      obtain ⟨W3, hW3⟩ : ∃ W3, W3 = (w3.alloc (Obj.cells #[.int .i64 h0, .int .i64 h1, .string h2, .slice h3 h4 h5] 24)).alloc (Obj.cells #[.int .i64 b0, .int .i64 b1, .string b2, .slice b3 b4 b5] 24) := ⟨_, rfl⟩
      have hz3 : W3.heap.size = w3.heap.size + 2 := by rw [hW3]; simp
      have BW3 := Lib.hid (show Below w3.heap.size w3 W3 by rw [hW3]; exact ((Below.refl _ _).alloc (Nat.le_refl _) _).alloc (by simp) _)
      have HH := Lib.hid (show W3.heap[w3.heap.size]? = some (.cells #[.int .i64 h0, .int .i64 h1, .string h2, .slice h3 h4 h5] 24 (0, 0)) by rw [hW3]; exact (Below.heap_alloc _ _ _ (by simp)).trans (heap_alloc_new _ _))
      have TH := Lib.hid (htp.below BW3.out)
      have TB := Lib.hid (btp.below BW3.out)
      have OKB := Lib.hid (show tb.ok from ⟨bgd, by have := ND.out; omega⟩)
      have NH := Lib.hid (show th.nodes ≤ 1001 ∧ tb.nodes ≤ 1001 by have := ND.out; omega)
      have GH := Lib.hid hgd
      have HSM := Lib.hid hsum
      have CG := Lib.hid (goals_any OKB.out (S := fun b => w.heap.size < b ∧ b < w1.heap.size) (fun b hb => by have := hb.2; omega) TB.out)
      have HB4 := Lib.hid ((BW3.out.block w.heap.size hl3).trans HB3.out)
      have B4 := Lib.hid (B3.out.trans (BW3.out.mono B3.out.size))
      have HW3 := Lib.hid hW3
      clear htp btp hgd bgd hsum hW3 SP
      go_wp2_with fail
      rw [← HW3.out]
      refine CG.out.mono ?_
      rintro e w5 ⟨⟨vg, er3, gs, Pg, qs, rfl, htl, ggd, gnd, HGK, _⟩, hx⟩
      have HKF := Lib.hid (show th.kindC ∧ th.nodes ≤ 1000 ∧ (∀ g ∈ gs, g.kindC ∧ g.nodes ≤ 1000) ∧ th.nodes + gs.length + nodesL gs ≤ 3010 from by
        obtain ⟨h1, h2, h3, h4⟩ := HKN.out
        have h5 := ND.out
        have h6 := HGK.out.2.2
        have h7 := HSM.out
        exact ⟨h1, by omega, fun g hg => ⟨HGK.out.2.1 h2 g hg, by have := HGK.out.1 g hg; omega⟩, by omega⟩)
      have HB5 := Lib.hid ((hx.block w.heap.size (heap_lt HB4.out)).trans HB4.out)
      have HH5 := Lib.hid ((hx.block w3.heap.size (heap_lt HH.out)).trans HH.out)
      have B5 := Lib.hid (B4.out.trans (hx.mono B4.out.size))
      have hl5 := heap_lt HB5.out
      have hl6 := heap_lt HH5.out
      have hs5 := hx.size
      have TH5 := Lib.hid (TH.out.below hx)
      have TL5 := Lib.hid htl
      have GG := Lib.hid ggd
      have GN := Lib.hid (show nodesL gs ≤ 2002 by have := NH.out; omega)
      clear hx CG x0 x1 x2 x3 zf htl ggd gnd
      have zf : ∀ j, w5.frozen? ⟨w.heap.size, j, none⟩ = false := fun j => by simp [World.frozen?, HB5.out]
      obtain ⟨x0, x1, x2, x3⟩ := box4t HB5.out
      obtain ⟨y0, y1, y2, y3⟩ := box4t HH5.out
      go_wp2_with fail
      obtain ⟨W6, hW6⟩ : ∃ W6, (((w5.setCell ⟨w.heap.size, 0, none⟩ (.int .i64 h0)).setCell ⟨w.heap.size, 1, none⟩ (.int .i64 h1)).setCell ⟨w.heap.size, 2, none⟩ (.string h2)).setCell ⟨w.heap.size, 3, none⟩ (.slice h3 h4 h5) = W6 := ⟨_, rfl⟩
      have hz6 : W6.heap.size = w5.heap.size := by rw [← hW6]; simp
      have P1 := box_put4 HB5.out (.int .i64 h0) (.int .i64 h1) (.string h2) (.slice h3 h4 h5) hW6
      have PB := P1.2.2.2 _ _ (Nat.le_refl _) B5.out
      obtain ⟨p0, p1, p2, p3⟩ := box4t P1.1
      rw [hW6]
      have hw3 := B3.out.size
      have TL6 := TL5.out.keep (by omega) fun b _ hb => P1.2.2.1 b (by
        rcases hb with hb | hb
        · have := hb.1; omega
        · omega)
      have TH6 := TP.keep (w' := W6) (S' := fun b => w.heap.size < b ∧ b < w1.heap.size) (fun b cs f hS hb => ⟨(P1.2.2.1 b (by have := hS.1; omega)).trans hb, hS⟩) TH5.out
      refine bodyPost_ret (v := .tuple #[.agg #[.int .i64 h0, .int .i64 h1, .string h2, .slice h3 h4 h5], vg, .bool true]) (by simp [results, go_sem, p0, p1, p2, p3]) rfl ?_
      exact ⟨⟨_, _, _, _, _, _, _, _, rfl, .inr ⟨rfl, th, gs, _, _, Pg, qs, (fun b hb => by have := hb.2; omega), by omega, TH6, TL6, GH.out, GG.out, NH.out.1, GN.out, HKF⟩⟩, PB⟩
/-- A compound term of a row of one's own. -/
theorem TL.cmp {w : World} {B : Nat} {S P : Nat → Prop} {A : Option Addr} {n c : Nat} {l : List T} {qs : List Q6} (h : TL w B S P (.slice A n c) l qs) (hn : n = l.length) (nm : ByteArray) {f : Nat → T} (hf : ∀ i (hi : i < l.length), f i = l[i]) :
    TP w (fun b => S b ∨ P b ∨ B ≤ b) (.mk 4 0 nm n f) (.agg #[.int .i64 4, .int .i64 0, .string nm, .slice A n c]) := by
  subst hn
  obtain ⟨A', c', he, hc, hA, _, hx⟩ := own_open h.own
  injection he with e1 _ e3
  subst e1; subst e3
  refine ⟨A, c, rfl, hc, hA, fun hm => ?_⟩
  obtain ⟨g, cur, rfl, hB, hh, hcur⟩ := hx hm
  refine ⟨g, cur, _, rfl, .inr (.inr hB), hh, fun i hi => ?_⟩
  have hq : i < qs.length := by rw [h.len]; exact hi
  have key : ∀ j, j < 4 → cur[4 * i + j]? = (qs[i]).cells[j]? := fun j hj => by
    rw [Nat.mul_comm 4 i, hcur _ (by omega)]
    exact qCells_at qs i hq j hj
  refine ⟨_, _, _, _, key 0 (by omega), key 1 (by omega), key 2 (by omega), key 3 (by omega), ?_⟩
  rw [hf i hi]
  exact (h.tp i hi hq).more fun b hb => hb.imp id .inl
def WhP (th : T) (gs : List T) (S P : Nat → Prop) (w : World) (e : Ending) (w' : World) : Prop :=
  (∃ (A : Option Addr) (c : Nat), e = .returned (.agg #[.int .i64 4, .int .i64 0, .string ⟨#[99, 108, 97, 117, 115, 101]⟩, .slice A (gs.length + 1) c]) ∧ TP w' (fun b => (S b ∨ P b) ∨ False ∨ w.heap.size ≤ b) (wholeT th gs) (.agg #[.int .i64 4, .int .i64 0, .string ⟨#[99, 108, 97, 117, 115, 101]⟩, .slice A (gs.length + 1) c])) ∧ Below w.heap.size w w'
set_option maxRecDepth 100000 in
set_option maxHeartbeats 4000000 in
theorem whole_any {th : T} {gs : List T} {w : World} {S P : Nat → Prop} {B : Nat} {hv gv : Value} {qs : List Q6} (hth : TP w S th hv) (hgs : TL w B S P gv gs qs) (hS : ∀ b, S b → b < w.heap.size) (hfew : gs.length ≤ 3000) :
    Calls Tryd.prog 17 #[hv, gv] w fun e w' => WhP th gs S P w e w' := by
  obtain ⟨q0, q1, q2, q3, q4, q5, rfl⟩ := hth.agg
  have HTH := Lib.hid hth
  have HGS := Lib.hid hgs
  obtain ⟨A, c, rfl, hc, hA, hx⟩ := hgs.all
  obtain ⟨W0, hW0⟩ : ∃ W0, W0 = ((w.alloc (Obj.cells #[.int .i64 q0, .int .i64 q1, .string q2, .slice q3 q4 q5] 24)).alloc (Obj.cells #[.int .i64 0, .int .i64 0, .string ⟨#[]⟩, .slice none 0 0] 24)).alloc (Obj.cells #[.int .i64 q0, .int .i64 q1, .string q2, .slice q3 q4 q5] 24) := ⟨_, rfl⟩
  have hz0 : W0.heap.size = w.heap.size + 3 := by rw [hW0]; simp
  have B0 := Lib.hid (show Below w.heap.size w W0 by rw [hW0]; exact belA (belA (belA (Below.refl _ _) _) _) _)
  have HR := Lib.hid (show W0.heap[w.heap.size + 1]? = some (.cells #[.int .i64 0, .int .i64 0, .string ⟨#[]⟩, .slice none 0 0] 24 (0, 0)) by
    rw [hW0]; exact (Below.heap_alloc _ _ _ (by simp)).trans (heap_at _ _ (by simp)))
  have HA0 := Lib.hid (show W0.heap[w.heap.size + 2]? = some (.cells (qCells [⟨q0, q1, q2, q3, q4, q5⟩]).toArray 24 (0, 0)) by
    rw [hW0]; exact heap_at _ _ (by simp))
  have TL0 := Lib.hid (show TL W0 (w.heap.size + 2) (fun b => S b ∨ P b) (fun _ => False) (.slice (some ⟨w.heap.size + 2, 0, none⟩) 1 1) [th] [⟨q0, q1, q2, q3, q4, q5⟩] from
    ⟨rfl, ⟨by rw [qCells_length]; rfl, .inr ⟨_, 1, _, rfl, by omega, HA0.out, Nat.le_refl _, by simp [maxLen], by rw [List.size_toArray, qCells_length]; simp, by simp [qCells, Q6.cells]⟩⟩, fun i h1 h2 => by
      obtain rfl : i = 0 := by simpa using h1
      exact (HTH.out.below B0.out).more fun b hb => .inl (.inl hb), fun _ h => h.elim, fun _ _ h => h, fun b hb => by
      rcases hb with hb | hb
      · have := hS b hb; omega
      · have := (HGS.out.lo b hb).2; omega⟩)
  have HX := Lib.hid (show 0 < gs.length → ∃ b off, A = some ⟨b, off, none⟩ ∧ ∀ j u, (qCells qs)[j]? = some u → W0.cell? ⟨b, off + j, none⟩ = some u from fun h0 => by
    obtain ⟨b, off, e, h⟩ := hx h0
    exact ⟨b, off, e, fun j u hu => (B0.out.cell (World.block_lt_of_cell? _ _ (h j u hu))).trans (h j u hu)⟩)
  have HGS0 := Lib.hid (HGS.out.below B0.out)
  have HW0 := Lib.hid hW0
  clear hth hgs hx hW0
  go_enter Tryd.func17, Tryd.ntmps17
  go_wp2_with (at_builtin; rw [← HW0.out]; go_must (refine wpList_append_at _ rfl _ _ _ rfl elTerm (w.heap.size + 2) _ 1 (qCells [⟨q0, q1, q2, q3, q4, q5⟩]) rfl TL0.out.own A gs.length c (qCells qs) rfl hA hc (by rw [qCells_length, HGS0.out.len]) HX.out (qCells_small _) (by omega) (by unfold maxLen; omega) (by omega) ?_))
  intro v1 w1 hown1 hg1 hat1
  have TL1 := Lib.hid (TL0.out.app (P2 := fun _ => False) HGS0.out.len hown1 hg1 (by rw [hz0]; exact hat1) (fun i h1 h2 => (HGS0.out.tp i h1 h2).more fun b hb => .inl hb) (fun _ h => h.elim) (fun _ _ h => h))
  have HR1 := Lib.hid ((hg1.block (w.heap.size + 1) (heap_lt HR.out) (by simp [Value.ownBlock])).trans HR.out)
  have B1 := Lib.hid (B0.out.grown hg1 (by omega) (by simp [Value.ownBlock]; omega))
  obtain ⟨A1, c1, rfl, _, _, _⟩ := TL1.out.all
  have xf : ∀ j, w1.frozen? ⟨w.heap.size + 1, j, none⟩ = false := fun j => by simp [World.frozen?, HR1.out]
  obtain ⟨x0, x1, x2, x3⟩ := box4t HR1.out
  have hl1 := heap_lt HR1.out
  clear hown1 hg1 hat1
  go_wp2_with fail
  obtain ⟨W6, hW6⟩ : ∃ W6, (((w1.setCell ⟨w.heap.size + 1, 0, none⟩ (.int .i64 4)).setCell ⟨w.heap.size + 1, 1, none⟩ (.int .i64 0)).setCell ⟨w.heap.size + 1, 2, none⟩ (.string ⟨#[99, 108, 97, 117, 115, 101]⟩)).setCell ⟨w.heap.size + 1, 3, none⟩ (.slice A1 (gs.length + 1) c1) = W6 := ⟨_, rfl⟩
  have hz6 : W6.heap.size = w1.heap.size := by rw [← hW6]; simp
  have P1 := box_put4 HR1.out (.int .i64 4) (.int .i64 0) (.string ⟨#[99, 108, 97, 117, 115, 101]⟩) (.slice A1 (gs.length + 1) c1) hW6
  have PB := P1.2.2.2 _ _ (by omega) B1.out
  obtain ⟨p0, p1, p2, p3⟩ := box4t P1.1
  rw [hW6]
  have hlen : ([th] ++ gs).length = gs.length + 1 := by simp
  have TL6 := TL1.out.keep (w' := W6) (by omega) fun b _ hb => P1.2.2.1 b (by
    rcases hb with hb | hb
    · have : b < w.heap.size := by
        rcases hb with hb | hb
        · exact hS b hb
        · exact (HGS.out.lo b hb).2
      omega
    · omega)
  have TC := TL6.cmp rfl ⟨#[99, 108, 97, 117, 115, 101]⟩ (f := fun i => (th :: gs).getD i .nil) (fun i hi => by
    have hi' : i < (th :: gs).length := by simpa using hi
    simp only [List.getD_eq_getElem?_getD]
    rw [List.getElem?_eq_getElem hi']
    rfl)
  rw [hlen] at TC
  refine bodyPost_ret (v := .agg #[.int .i64 4, .int .i64 0, .string ⟨#[99, 108, 97, 117, 115, 101]⟩, .slice A1 (gs.length + 1) c1]) (by simp [results, go_sem, p0, p1, p2, p3]) rfl ?_
  exact ⟨⟨A1, c1, rfl, TC.more fun b hb => by
    rcases hb with hb | hb | hb
    · exact .inl hb
    · rcases hb with hb | hb
      · exact .inr (.inl hb)
      · exact .inr (.inl hb)
    · exact .inr (.inr (by omega))⟩, PB⟩
end Go.Proofs.YtlgeepjlnjlgdaaDoor
