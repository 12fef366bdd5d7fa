/- The walks through coneyref10: Goals, Split. -/
import Derived.Test.YtlgeepjlnjlgdaaDoorGo
namespace Go.Proofs.YtlgeepjlnjlgdaaDoor
open Go.RowKit

/-- What Goals hands back. -/
def GoalsP (t : T) (S : Nat → Prop) (w : World) (e : Ending) (w' : World) : Prop :=
  (∃ (v : Value) (er : Int) (gs : List T) (P : Nat → Prop) (qs : List Q6), e = .returned (.tuple #[v, .int .i64 er]) ∧ TL w' w.heap.size S P v gs qs ∧ (∀ g ∈ gs, g.good) ∧ nodesL gs ≤ 2 * t.nodes ∧ Hid (GatK t gs) ∧ Hid (er = 0 → t.callT)) ∧ Below w.heap.size w w'
set_option maxRecDepth 100000 in
theorem goals_any {t : T} (hok : t.ok) {S : Nat → Prop} {v : Value} {w : World} (hN : ∀ b, S b → b < w.heap.size) (hv : TP w S t v) : Calls Tryd.prog 20 #[v] w fun e w' => GoalsP t S w e w' := by
  obtain ⟨k, n, s, A, m, c, rfl⟩ := hv.agg
  have HV := Lib.hid hv
  have BX := Lib.hid (belA (Below.refl w.heap.size w) (Obj.cells #[.int .i64 k, .int .i64 n, .string s, .slice A m c] 24))
  have HB0 := Lib.hid (heap_alloc_new w (Obj.cells #[.int .i64 k, .int .i64 n, .string s, .slice A m c] 24))
  have HOK := Lib.hid hok
  have C0 := Lib.hid (callable_any t hok _ _ _ (hv.below BX.out))
  clear hv hok
  go_enter Tryd.func20, Tryd.ntmps20
  go_wp2_with fail
  refine C0.out.mono ?_
  rintro e w1 ⟨⟨b, rfl, HCB⟩, h1⟩
  have B1 := Lib.hid (BX.out.trans (h1.mono BX.out.size))
  have HB1 := Lib.hid ((h1.block w.heap.size (heap_lt HB0.out)).trans HB0.out)
  have hl1 := heap_lt HB1.out
  obtain ⟨x0, x1, x2, x3⟩ := box4t HB1.out
  clear h1 C0
  cases b with
  | false =>
    go_wp2_with fail
    go_ret2
    exact ⟨⟨_, _, [], fun _ => False, [], rfl, TL.empty (World.ownsRow_nil _ _ _ _) hN, by simp, by simp [nodesL], Lib.hid (gat_nil _), Lib.hid fun h => (by cases h)⟩, B1.out⟩
  | true =>
    have C1 := Lib.hid (gather_any t HOK.out S _ w1 (fun b hb => by have := hN b hb; have := B1.out.size; omega) (HV.out.below B1.out))
    go_wp2_with fail
    refine C1.out.mono ?_
    rintro e w2 ⟨⟨v2, gs, Pg, qs, rfl, htl, hgd, hnd, HGK⟩, h2⟩
    have T2 := Lib.hid htl
    have G2 := Lib.hid hgd
    have B2 := Lib.hid (B1.out.trans (h2.mono B1.out.size))
    have hs1 := B1.out.size
    clear htl hgd h2 C1 x0 x1 x2 x3
    go_wp2_with fail
    go_ret2
    exact ⟨⟨_, _, gs, Pg, qs, rfl, ⟨T2.out.len, own_more T2.out.own hs1, T2.out.tp, fun b hb => ⟨by have := (T2.out.lo b hb).1; omega, (T2.out.lo b hb).2⟩, T2.out.off, hN⟩, G2.out, hnd, HGK, Lib.hid fun _ => HCB.out (by first | rfl | trivial)⟩, B2.out⟩
/-- What Split hands back. -/
def SplitP (t : T) (S : Nat → Prop) (w : World) (e : Ending) (w' : World) : Prop :=
  (∃ (h0 h1 : Int) (h2 : ByteArray) (h3 : Option Addr) (h4 h5 : Nat) (b0 b1 : Int) (b2 : ByteArray) (b3 : Option Addr) (b4 b5 : Nat) (er : Int), e = .returned (.tuple #[.agg #[.int .i64 h0, .int .i64 h1, .string h2, .slice h3 h4 h5], .agg #[.int .i64 b0, .int .i64 b1, .string b2, .slice b3 b4 b5], .int .i64 er]) ∧
    (er = 0 → ∃ th tb : T, TP w' S th (.agg #[.int .i64 h0, .int .i64 h1, .string h2, .slice h3 h4 h5]) ∧ TP w' S tb (.agg #[.int .i64 b0, .int .i64 b1, .string b2, .slice b3 b4 b5]) ∧ th.good ∧ tb.good ∧ th.nodes + tb.nodes ≤ t.nodes + 1 ∧ Hid (th.kindC ∧ tb.callT ∧ th.nodes ≤ t.nodes ∧ tb.nodes ≤ max t.nodes 1))) ∧ Below w.heap.size w w'
theorem true_good : (T.mk 3 0 ⟨#[116, 114, 117, 101]⟩ 0 fun _ => .nil).good := ⟨.inr (.inr (.inl ⟨rfl, rfl, by decide, rfl⟩)), fun i h => absurd h (by omega)⟩
/-- The boxes of Split in memory: the results', the head's and the body's. -/
structure SpB (w W : World) (h0 h1 : Int) (h2 : ByteArray) (h3 : Option Addr) (h4 h5 : Nat) (b0 b1 : Int) (b2 : ByteArray) (b3 : Option Addr) (b4 b5 : Nat) : Prop where
  r1 : W.heap[w.heap.size + 1]? = some (.cells #[.int .i64 0, .int .i64 0, .string ⟨#[]⟩, .slice none 0 0] 24 (0, 0))
  r2 : W.heap[w.heap.size + 1 + 1]? = some (.cells #[.int .i64 0, .int .i64 0, .string ⟨#[]⟩, .slice none 0 0] 24 (0, 0))
  hd : W.heap[w.heap.size + 1 + 1 + 1]? = some (.cells #[.int .i64 h0, .int .i64 h1, .string h2, .slice h3 h4 h5] 24 (0, 0))
  bd : W.heap[w.heap.size + 1 + 1 + 1 + 1]? = some (.cells #[.int .i64 b0, .int .i64 b1, .string b2, .slice b3 b4 b5] 24 (0, 0))
  low : Below w.heap.size w W
  lt : w.heap.size + 5 ≤ W.heap.size
theorem SpB.below {w W W' : World} {h0 h1 : Int} {h2 : ByteArray} {h3 : Option Addr} {h4 h5 : Nat} {b0 b1 : Int} {b2 : ByteArray} {b3 : Option Addr} {b4 b5 : Nat} (h : SpB w W h0 h1 h2 h3 h4 h5 b0 b1 b2 b3 b4 b5) (hb : Below W.heap.size W W') : SpB w W' h0 h1 h2 h3 h4 h5 b0 b1 b2 b3 b4 b5 :=
  ⟨(hb.block _ (heap_lt h.r1)).trans h.r1, (hb.block _ (heap_lt h.r2)).trans h.r2, (hb.block _ (heap_lt h.hd)).trans h.hd, (hb.block _ (heap_lt h.bd)).trans h.bd, h.low.trans (hb.mono h.low.size), Nat.le_trans h.lt hb.size⟩
set_option maxRecDepth 100000 in
set_option maxHeartbeats 2000000 in
theorem split_any {t : T} (hok : t.ok) {S : Nat → Prop} {v : Value} {w : World} (hN : ∀ b, S b → b < w.heap.size) (hv : TP w S t v) : Calls Tryd.prog 19 #[v] w fun e w' => SplitP t S w e w' := by
  obtain ⟨q0, q1, q2, q3, q4, q5, rfl⟩ := hv.agg
  have HV := Lib.hid hv
  have HOK := Lib.hid hok
  obtain ⟨W0, hW0⟩ : ∃ W0, W0 = ((((w.alloc (Obj.cells #[.int .i64 q0, .int .i64 q1, .string q2, .slice q3 q4 q5] 24)).alloc (Obj.cells #[.int .i64 0, .int .i64 0, .string ⟨#[]⟩, .slice none 0 0] 24)).alloc (Obj.cells #[.int .i64 0, .int .i64 0, .string ⟨#[]⟩, .slice none 0 0] 24)).alloc (Obj.cells #[.int .i64 q0, .int .i64 q1, .string q2, .slice q3 q4 q5] 24)).alloc (Obj.cells #[.int .i64 3, .int .i64 0, .string ⟨#[116, 114, 117, 101]⟩, .slice none 0 0] 24) := ⟨_, rfl⟩
  have hs0 : W0.heap.size = w.heap.size + 5 := by rw [hW0]; simp
  have S0 := Lib.hid (show SpB w W0 q0 q1 q2 q3 q4 q5 3 0 ⟨#[116, 114, 117, 101]⟩ none 0 0 ∧ W0.heap[w.heap.size]? = some (.cells #[.int .i64 q0, .int .i64 q1, .string q2, .slice q3 q4 q5] 24 (0, 0)) by
    have st : ∀ (u : World) (o o' : Obj) (g : Nat), u.heap[g]? = some o' → (u.alloc o).heap[g]? = some o' := fun u o o' g h => (Below.heap_alloc _ _ _ (heap_lt h)).trans h
    have nw : ∀ (u : World) (o : Obj) (g : Nat), g = u.heap.size → (u.alloc o).heap[g]? = some o := fun u o g h => heap_at u o h
    rw [hW0]
    exact ⟨⟨st _ _ _ _ (st _ _ _ _ (st _ _ _ _ (nw _ _ _ (by simp)))), st _ _ _ _ (st _ _ _ _ (nw _ _ _ (by simp))), st _ _ _ _ (nw _ _ _ (by simp)), nw _ _ _ (by simp), belA (belA (belA (belA (belA (Below.refl _ _) _) _) _) _) _, by simp⟩,
      st _ _ _ _ (st _ _ _ _ (st _ _ _ _ (st _ _ _ _ (nw _ _ _ (by simp)))))⟩)
  have HW0 := Lib.hid hW0
  obtain ⟨b0, hb0⟩ := someIs t ⟨#[58, 45]⟩ 2
  have C0 := Lib.hid (is_any hok (hv.below S0.out.1.low) ⟨#[58, 45]⟩ 2 hb0)
  have HI := Lib.hid hb0
  clear hv hok hb0 hW0
  go_enter Tryd.func19, Tryd.ntmps19
  go_wp2_with fail
  rw [← HW0.out]
  refine C0.out.mono ?_
  rintro e w1 ⟨rfl, hx⟩
  have S1 := Lib.hid (S0.out.1.below hx)
  have HT1 := Lib.hid ((hx.block w.heap.size (heap_lt S0.out.2)).trans S0.out.2)
  have hl1 := heap_lt HT1.out
  obtain ⟨x0, x1, x2, x3⟩ := box4t HT1.out
  clear hx C0 S0
  cases b0 with
  | false =>
    obtain ⟨th, hth⟩ : ∃ th, th = t := ⟨_, rfl⟩
    have TH := Lib.hid (show TP w1 S th (.agg #[.int .i64 q0, .int .i64 q1, .string q2, .slice q3 q4 q5]) by rw [hth]; exact HV.out.below S1.out.low)
    have OH := Lib.hid (show th.ok by rw [hth]; exact HOK.out)
    obtain ⟨tb, htb⟩ : ∃ tb, tb = (T.mk 3 0 ⟨#[116, 114, 117, 101]⟩ 0 fun _ => .nil) := ⟨_, rfl⟩
    have TB := Lib.hid (show TP w1 S tb (.agg #[.int .i64 3, .int .i64 0, .string ⟨#[116, 114, 117, 101]⟩, .slice none 0 0]) by rw [htb]; exact TP.leaf _ _ _ _ _)
    have OB := Lib.hid (show tb.ok by rw [htb]; exact ⟨true_good, by rw [leaf_nodes]; decide⟩)
    have NN := Lib.hid (show th.nodes + tb.nodes ≤ t.nodes + 1 by rw [hth, htb, leaf_nodes]; omega)
    have NM := Lib.hid (show th.nodes ≤ t.nodes ∧ tb.nodes ≤ max t.nodes 1 by rw [hth, htb, leaf_nodes]; omega)
    have SR := Lib.hid S1.out
    clear hth htb S1 HT1 x0 x1 x2 x3
    have hlR := SR.out.lt
    obtain ⟨y0, y1, y2, y3⟩ := box4t SR.out.hd
    have CN := Lib.hid (name_any OH.out TH.out)
    go_wp2_with fail
    refine CN.out.mono ?_
    rintro e w2 ⟨⟨nm, ar, bn0, rfl, hnk, _⟩, hx⟩
    have HNK := Lib.hid (show bn0 = true → th.kindC from fun h => (by obtain ⟨_, _, _, rfl, hk⟩ := hnk h; exact hk))
    clear hnk
    have S2 := Lib.hid (SR.out.below hx)
    have TH2 := Lib.hid (TH.out.below hx)
    have TB2 := Lib.hid (TB.out.below hx)
    have hl2 := S2.out.lt
    clear hx CN y0 y1 y2 y3 hlR
    obtain ⟨y0, y1, y2, y3⟩ := box4t S2.out.hd
    obtain ⟨z0, z1, z2, z3⟩ := box4t S2.out.r1
    obtain ⟨u0, u1, u2, u3⟩ := box4t S2.out.r2
    have zf : ∀ j, w2.frozen? ⟨w.heap.size + 1, j, none⟩ = false := fun j => by simp [World.frozen?, S2.out.r1]
    have uf : ∀ j, w2.frozen? ⟨w.heap.size + 1 + 1, j, none⟩ = false := fun j => by simp [World.frozen?, S2.out.r2]
    cases bn0 with
    | false =>
      go_wp2_with fail
      have P1 := box_put4 S2.out.r1 (.int .i64 0) (.int .i64 0) (.string ⟨#[]⟩) (.slice none 0 0) rfl
      have P2 := box_put4 ((P1.2.2.1 (w.heap.size + 1 + 1) (by omega)).trans S2.out.r2) (.int .i64 0) (.int .i64 0) (.string ⟨#[]⟩) (.slice none 0 0) rfl
      obtain ⟨p0, p1, p2, p3⟩ := box4t ((P2.2.2.1 (w.heap.size + 1) (by omega)).trans P1.1)
      obtain ⟨o0, o1, o2, o3⟩ := box4t P2.1
      refine bodyPost_ret (v := .tuple #[.agg #[.int .i64 0, .int .i64 0, .string ⟨#[]⟩, .slice none 0 0], .agg #[.int .i64 0, .int .i64 0, .string ⟨#[]⟩, .slice none 0 0], .int .i64 100]) (by simp [results, go_sem, p0, p1, p2, p3, o0, o1, o2, o3]) rfl ?_
      exact ⟨⟨_, _, _, _, _, _, _, _, _, _, _, _, _, rfl, fun h => absurd h (by decide)⟩, P2.2.2.2 _ _ (by omega) (P1.2.2.2 _ _ (by omega) S2.out.low)⟩
    | true =>
      have CQ := Lib.hid (control_any OH.out TH2.out)
      go_wp2_with fail
      refine CQ.out.mono ?_
      rintro e w3 ⟨⟨bq0, rfl, _⟩, hx⟩
      have S3 := Lib.hid (S2.out.below hx)
      have TH3 := Lib.hid (TH2.out.below hx)
      have TB3 := Lib.hid (TB2.out.below hx)
      have hl3 := S3.out.lt
      clear hx CQ y0 y1 y2 y3 z0 z1 z2 z3 u0 u1 u2 u3 zf uf
      obtain ⟨y0, y1, y2, y3⟩ := box4t S3.out.hd
      obtain ⟨z0, z1, z2, z3⟩ := box4t S3.out.r1
      obtain ⟨u0, u1, u2, u3⟩ := box4t S3.out.r2
      have zf : ∀ j, w3.frozen? ⟨w.heap.size + 1, j, none⟩ = false := fun j => by simp [World.frozen?, S3.out.r1]
      have uf : ∀ j, w3.frozen? ⟨w.heap.size + 1 + 1, j, none⟩ = false := fun j => by simp [World.frozen?, S3.out.r2]
      cases bq0 with
      | true =>
        go_wp2_with fail
        have P1 := box_put4 S3.out.r1 (.int .i64 0) (.int .i64 0) (.string ⟨#[]⟩) (.slice none 0 0) rfl
        have P2 := box_put4 ((P1.2.2.1 (w.heap.size + 1 + 1) (by omega)).trans S3.out.r2) (.int .i64 0) (.int .i64 0) (.string ⟨#[]⟩) (.slice none 0 0) rfl
        obtain ⟨p0, p1, p2, p3⟩ := box4t ((P2.2.2.1 (w.heap.size + 1) (by omega)).trans P1.1)
        obtain ⟨o0, o1, o2, o3⟩ := box4t P2.1
        refine bodyPost_ret (v := .tuple #[.agg #[.int .i64 0, .int .i64 0, .string ⟨#[]⟩, .slice none 0 0], .agg #[.int .i64 0, .int .i64 0, .string ⟨#[]⟩, .slice none 0 0], .int .i64 100]) (by simp [results, go_sem, p0, p1, p2, p3, o0, o1, o2, o3]) rfl ?_
        exact ⟨⟨_, _, _, _, _, _, _, _, _, _, _, _, _, rfl, fun h => absurd h (by decide)⟩, P2.2.2.2 _ _ (by omega) (P1.2.2.2 _ _ (by omega) S3.out.low)⟩
      | false =>
        obtain ⟨bq1, hbq⟩ := someIs th ⟨#[58, 45]⟩ 1
        have CQ := Lib.hid (is_any OH.out TH3.out ⟨#[58, 45]⟩ 1 hbq)
        clear hbq
        go_wp2_with fail
        refine CQ.out.mono ?_
        rintro e w4 ⟨rfl, hx⟩
        have S4 := Lib.hid (S3.out.below hx)
        have TH4 := Lib.hid (TH3.out.below hx)
        have TB4 := Lib.hid (TB3.out.below hx)
        have hl4 := S4.out.lt
        clear hx CQ y0 y1 y2 y3 z0 z1 z2 z3 u0 u1 u2 u3 zf uf
        obtain ⟨y0, y1, y2, y3⟩ := box4t S4.out.hd
        obtain ⟨z0, z1, z2, z3⟩ := box4t S4.out.r1
        obtain ⟨u0, u1, u2, u3⟩ := box4t S4.out.r2
        have zf : ∀ j, w4.frozen? ⟨w.heap.size + 1, j, none⟩ = false := fun j => by simp [World.frozen?, S4.out.r1]
        have uf : ∀ j, w4.frozen? ⟨w.heap.size + 1 + 1, j, none⟩ = false := fun j => by simp [World.frozen?, S4.out.r2]
        cases bq1 with
        | true =>
          go_wp2_with fail
          have P1 := box_put4 S4.out.r1 (.int .i64 0) (.int .i64 0) (.string ⟨#[]⟩) (.slice none 0 0) rfl
          have P2 := box_put4 ((P1.2.2.1 (w.heap.size + 1 + 1) (by omega)).trans S4.out.r2) (.int .i64 0) (.int .i64 0) (.string ⟨#[]⟩) (.slice none 0 0) rfl
          obtain ⟨p0, p1, p2, p3⟩ := box4t ((P2.2.2.1 (w.heap.size + 1) (by omega)).trans P1.1)
          obtain ⟨o0, o1, o2, o3⟩ := box4t P2.1
          refine bodyPost_ret (v := .tuple #[.agg #[.int .i64 0, .int .i64 0, .string ⟨#[]⟩, .slice none 0 0], .agg #[.int .i64 0, .int .i64 0, .string ⟨#[]⟩, .slice none 0 0], .int .i64 100]) (by simp [results, go_sem, p0, p1, p2, p3, o0, o1, o2, o3]) rfl ?_
          exact ⟨⟨_, _, _, _, _, _, _, _, _, _, _, _, _, rfl, fun h => absurd h (by decide)⟩, P2.2.2.2 _ _ (by omega) (P1.2.2.2 _ _ (by omega) S4.out.low)⟩
        | false =>
          obtain ⟨bq2, hbq⟩ := someIs th ⟨#[58, 45]⟩ 2
          have CQ := Lib.hid (is_any OH.out TH4.out ⟨#[58, 45]⟩ 2 hbq)
          clear hbq
          go_wp2_with fail
          refine CQ.out.mono ?_
          rintro e w5 ⟨rfl, hx⟩
          have S5 := Lib.hid (S4.out.below hx)
          have TH5 := Lib.hid (TH4.out.below hx)
          have TB5 := Lib.hid (TB4.out.below hx)
          have hl5 := S5.out.lt
          clear hx CQ y0 y1 y2 y3 z0 z1 z2 z3 u0 u1 u2 u3 zf uf
          obtain ⟨y0, y1, y2, y3⟩ := box4t S5.out.hd
          obtain ⟨z0, z1, z2, z3⟩ := box4t S5.out.r1
          obtain ⟨u0, u1, u2, u3⟩ := box4t S5.out.r2
          have zf : ∀ j, w5.frozen? ⟨w.heap.size + 1, j, none⟩ = false := fun j => by simp [World.frozen?, S5.out.r1]
          have uf : ∀ j, w5.frozen? ⟨w.heap.size + 1 + 1, j, none⟩ = false := fun j => by simp [World.frozen?, S5.out.r2]
          cases bq2 with
          | true =>
            go_wp2_with fail
            have P1 := box_put4 S5.out.r1 (.int .i64 0) (.int .i64 0) (.string ⟨#[]⟩) (.slice none 0 0) rfl
            have P2 := box_put4 ((P1.2.2.1 (w.heap.size + 1 + 1) (by omega)).trans S5.out.r2) (.int .i64 0) (.int .i64 0) (.string ⟨#[]⟩) (.slice none 0 0) rfl
            obtain ⟨p0, p1, p2, p3⟩ := box4t ((P2.2.2.1 (w.heap.size + 1) (by omega)).trans P1.1)
            obtain ⟨o0, o1, o2, o3⟩ := box4t P2.1
            refine bodyPost_ret (v := .tuple #[.agg #[.int .i64 0, .int .i64 0, .string ⟨#[]⟩, .slice none 0 0], .agg #[.int .i64 0, .int .i64 0, .string ⟨#[]⟩, .slice none 0 0], .int .i64 100]) (by simp [results, go_sem, p0, p1, p2, p3, o0, o1, o2, o3]) rfl ?_
            exact ⟨⟨_, _, _, _, _, _, _, _, _, _, _, _, _, rfl, fun h => absurd h (by decide)⟩, P2.2.2.2 _ _ (by omega) (P1.2.2.2 _ _ (by omega) S5.out.low)⟩
          | false =>
            obtain ⟨v0, v1, v2, v3⟩ := box4t S5.out.bd
            have CG := Lib.hid (goals_any OB.out (fun b hb => by have := hN b hb; have := S5.out.low.size; omega) TB5.out)
            go_wp2_with fail
            refine CG.out.mono ?_
            rintro e w9 ⟨⟨vg, er, gs, Pg, qs, rfl, _, _, _, _, HCT⟩, hx⟩
            have S9 := Lib.hid (S5.out.below hx)
            have TH9 := Lib.hid (TH5.out.below hx)
            have TB9 := Lib.hid (TB5.out.below hx)
            have hl9 := S9.out.lt
            clear hx CG y0 y1 y2 y3 z0 z1 z2 z3 u0 u1 u2 u3 v0 v1 v2 v3 zf uf
            obtain ⟨y0, y1, y2, y3⟩ := box4t S9.out.hd
            obtain ⟨z0, z1, z2, z3⟩ := box4t S9.out.r1
            obtain ⟨u0, u1, u2, u3⟩ := box4t S9.out.r2
            have zf : ∀ j, w9.frozen? ⟨w.heap.size + 1, j, none⟩ = false := fun j => by simp [World.frozen?, S9.out.r1]
            have uf : ∀ j, w9.frozen? ⟨w.heap.size + 1 + 1, j, none⟩ = false := fun j => by simp [World.frozen?, S9.out.r2]
            obtain ⟨v0, v1, v2, v3⟩ := box4t S9.out.bd
            cases her : (er == 0) with
            | false =>
              go_wp2_with fail
              have P1 := box_put4 S9.out.r1 (.int .i64 0) (.int .i64 0) (.string ⟨#[]⟩) (.slice none 0 0) rfl
              have P2 := box_put4 ((P1.2.2.1 (w.heap.size + 1 + 1) (by omega)).trans S9.out.r2) (.int .i64 0) (.int .i64 0) (.string ⟨#[]⟩) (.slice none 0 0) rfl
              obtain ⟨p0, p1, p2, p3⟩ := box4t ((P2.2.2.1 (w.heap.size + 1) (by omega)).trans P1.1)
              obtain ⟨o0, o1, o2, o3⟩ := box4t P2.1
              refine bodyPost_ret (v := .tuple #[.agg #[.int .i64 0, .int .i64 0, .string ⟨#[]⟩, .slice none 0 0], .agg #[.int .i64 0, .int .i64 0, .string ⟨#[]⟩, .slice none 0 0], .int .i64 101]) (by simp [results, go_sem, p0, p1, p2, p3, o0, o1, o2, o3]) rfl ?_
              exact ⟨⟨_, _, _, _, _, _, _, _, _, _, _, _, _, rfl, fun h => absurd h (by decide)⟩, P2.2.2.2 _ _ (by omega) (P1.2.2.2 _ _ (by omega) S9.out.low)⟩
            | true =>
              have HER := Lib.hid her
              go_wp2_with fail
              have q12 : w.heap.size + 1 ≠ w.heap.size + 2 := by omega
              have q13 : w.heap.size + 1 ≠ w.heap.size + 3 := by omega
              have q14 : w.heap.size + 1 ≠ w.heap.size + 4 := by omega
              go_region
              obtain ⟨WA, hWA⟩ : ∃ WA, (((w9.setCell ⟨w.heap.size + 1, 0, none⟩ (.int .i64 q0)).setCell ⟨w.heap.size + 1, 1, none⟩ (.int .i64 q1)).setCell ⟨w.heap.size + 1, 2, none⟩ (.string q2)).setCell ⟨w.heap.size + 1, 3, none⟩ (.slice q3 q4 q5) = WA := ⟨_, rfl⟩
              have P1 := box_put4 S9.out.r1 (.int .i64 q0) (.int .i64 q1) (.string q2) (.slice q3 q4 q5) hWA
              obtain ⟨WB, hWB⟩ : ∃ WB, (((WA.setCell ⟨w.heap.size + 1 + 1, 0, none⟩ (.int .i64 3)).setCell ⟨w.heap.size + 1 + 1, 1, none⟩ (.int .i64 0)).setCell ⟨w.heap.size + 1 + 1, 2, none⟩ (.string ⟨#[116, 114, 117, 101]⟩)).setCell ⟨w.heap.size + 1 + 1, 3, none⟩ (.slice none 0 0) = WB := ⟨_, rfl⟩
              have P2 := box_put4 ((P1.2.2.1 (w.heap.size + 1 + 1) (by omega)).trans S9.out.r2) (.int .i64 3) (.int .i64 0) (.string ⟨#[116, 114, 117, 101]⟩) (.slice none 0 0) hWB
              rw [hWA, hWB]
              have PX := Lib.hid (show ∀ (u : T) (x : Value), TP w9 S u x → TP WB.drew S u x from fun u x hu => TP.keep (w' := WB.drew) (S' := S) (fun b cs f hS hb => by
                have hS' := hN b hS
                exact ⟨(P2.2.2.1 b (by omega)).trans ((P1.2.2.1 b (by omega)).trans hb), hS⟩) hu)
              have PB := Lib.hid ((P2.2.2.2 _ _ (by omega) (P1.2.2.2 _ _ (by omega) S9.out.low)).drew)
              obtain ⟨p0, p1, p2, p3⟩ := box4t (w := WB.drew) ((P2.2.2.1 (w.heap.size + 1) (by omega)).trans P1.1)
              obtain ⟨o0, o1, o2, o3⟩ := box4t (w := WB.drew) P2.1
              clear P1 P2 hWA hWB
              go_wp2_with fail
              refine bodyPost_ret (v := .tuple #[.agg #[.int .i64 q0, .int .i64 q1, .string q2, .slice q3 q4 q5], .agg #[.int .i64 3, .int .i64 0, .string ⟨#[116, 114, 117, 101]⟩, .slice none 0 0], .int .i64 0]) (by simp [results, go_sem, p0, p1, p2, p3, o0, o1, o2, o3]) rfl ?_
              exact ⟨⟨_, _, _, _, _, _, _, _, _, _, _, _, _, rfl, fun _ => ⟨th, tb, PX.out _ _ TH9.out, PX.out _ _ TB9.out, OH.out.1, OB.out.1, NN.out, Lib.hid ⟨HNK.out (by first | rfl | trivial), HCT.out (by simpa using HER.out), NM.out.1, NM.out.2⟩⟩⟩, PB.out⟩
  | true =>
    obtain ⟨k1, n1, s1, a1, he, hk1, _⟩ := HI.out.mp rfl
    have hk4 : k1 = 4 := by
      rcases hk1 with h | h
      · subst he
        have := HOK.out.plain (by omega : k1 ≠ 4)
        omega
      · exact h
    subst hk4
    subst he
    obtain ⟨_, _, _, hqm, _, _, hargs⟩ := (HV.out.below S1.out.low).args
    subst hqm
    obtain ⟨g, c0, c1, c2, c3, c4, c5, hA, hgN, hgl, d0, d1, d2, d3, hta⟩ := hargs 0 (by omega)
    subst hA
    obtain ⟨g', e0, e1, e2, e3, e4, e5, hA, _, _, f0, f1, f2, f3, htb⟩ := hargs 1 (by omega)
    injection hA with hA
    injection hA with hA _
    subst hA
    simp only [Nat.zero_mul, Nat.zero_add, Nat.one_mul] at d0 d1 d2 d3 f0 f1 f2 f3
    have hgn := hN g hgN
    have gn3 : g ≠ w.heap.size + 1 + 1 + 1 := by omega
    have gn4 : g ≠ w.heap.size + 1 + 1 + 1 + 1 := by omega
    have gn0 : w.heap.size ≠ w.heap.size + 1 + 1 + 1 := by omega
    have zf : ∀ j, w1.frozen? ⟨w.heap.size + 1 + 1 + 1, j, none⟩ = false := fun j => by simp [World.frozen?, S1.out.hd]
    have uf : ∀ j, w1.frozen? ⟨w.heap.size + 1 + 1 + 1 + 1, j, none⟩ = false := fun j => by simp [World.frozen?, S1.out.bd]
    obtain ⟨y0, y1, y2, y3⟩ := box4t S1.out.hd
    obtain ⟨z0, z1, z2, z3⟩ := box4t S1.out.bd
    obtain ⟨th, hth⟩ : ∃ th, th = a1 0 := ⟨_, rfl⟩
    obtain ⟨tb, htb'⟩ : ∃ tb, tb = a1 1 := ⟨_, rfl⟩
    rw [← hth] at hta
    rw [← htb'] at htb
    have HTA := Lib.hid hta
    have HTB := Lib.hid htb
    have OH := Lib.hid (show th.ok by rw [hth]; exact HOK.out.arg (by omega))
    have OB := Lib.hid (show tb.ok by rw [htb']; exact HOK.out.arg (by omega))
    have NN := Lib.hid (show th.nodes + tb.nodes ≤ (T.mk 4 n1 s1 2 a1).nodes + 1 by
      have h1 : (T.mk 4 n1 s1 2 a1).nodes = 1 + (0 + (a1 0).nodes + (a1 1).nodes) := rfl
      rw [h1, hth, htb']
      omega)
    have NM := Lib.hid (show th.nodes ≤ (T.mk 4 n1 s1 2 a1).nodes ∧ tb.nodes ≤ max (T.mk 4 n1 s1 2 a1).nodes 1 by
      have h1 : (T.mk 4 n1 s1 2 a1).nodes = 1 + (0 + (a1 0).nodes + (a1 1).nodes) := rfl
      rw [h1, hth, htb']
      omega)
    clear hk1 hargs hta htb hth htb' hgN
    go_wp2_with fail
    obtain ⟨WA, hWA⟩ : ∃ WA, (((w1.setCell ⟨w.heap.size + 1 + 1 + 1, 0, none⟩ (.int .i64 c0)).setCell ⟨w.heap.size + 1 + 1 + 1, 1, none⟩ (.int .i64 c1)).setCell ⟨w.heap.size + 1 + 1 + 1, 2, none⟩ (.string c2)).setCell ⟨w.heap.size + 1 + 1 + 1, 3, none⟩ (.slice c3 c4 c5) = WA := ⟨_, rfl⟩
    have P1 := box_put4 S1.out.hd (.int .i64 c0) (.int .i64 c1) (.string c2) (.slice c3 c4 c5) hWA
    obtain ⟨WB, hWB⟩ : ∃ WB, (((WA.setCell ⟨w.heap.size + 1 + 1 + 1 + 1, 0, none⟩ (.int .i64 e0)).setCell ⟨w.heap.size + 1 + 1 + 1 + 1, 1, none⟩ (.int .i64 e1)).setCell ⟨w.heap.size + 1 + 1 + 1 + 1, 2, none⟩ (.string e2)).setCell ⟨w.heap.size + 1 + 1 + 1 + 1, 3, none⟩ (.slice e3 e4 e5) = WB := ⟨_, rfl⟩
    have P2 := box_put4 ((P1.2.2.1 (w.heap.size + 1 + 1 + 1 + 1) (by omega)).trans S1.out.bd) (.int .i64 e0) (.int .i64 e1) (.string e2) (.slice e3 e4 e5) hWB
    rw [hWA, hWB]
    have PX : ∀ (u : T) (x : Value), TP w1 S u x → TP WB S u x := fun u x hu => TP.keep (w' := WB) (S' := S) (fun b cs f hS hb => by
      have hS' := hN b hS
      exact ⟨(P2.2.2.1 b (by omega)).trans ((P1.2.2.1 b (by omega)).trans hb), hS⟩) hu
    have TH := Lib.hid (PX _ _ HTA.out)
    have TB := Lib.hid (PX _ _ HTB.out)
    have SR := Lib.hid (show SpB w WB c0 c1 c2 c3 c4 c5 e0 e1 e2 e3 e4 e5 from ⟨(P2.2.2.1 _ (by omega)).trans ((P1.2.2.1 _ (by omega)).trans S1.out.r1), (P2.2.2.1 _ (by omega)).trans ((P1.2.2.1 _ (by omega)).trans S1.out.r2), (P2.2.2.1 _ (by omega)).trans P1.1, P2.1, P2.2.2.2 _ _ (by omega) (P1.2.2.2 _ _ (by omega) S1.out.low), by rw [← hWB, ← hWA]; simpa using S1.out.lt⟩)
    clear P1 P2 PX hWA hWB HTA HTB d0 d1 d2 d3 f0 f1 f2 f3 zf uf y0 y1 y2 y3 z0 z1 z2 z3 S1 HT1 x0 x1 x2 x3 gn0 gn3 gn4 hgl hgn
    have hlR := SR.out.lt
    obtain ⟨y0, y1, y2, y3⟩ := box4t SR.out.hd
    have CN := Lib.hid (name_any OH.out TH.out)
    refine CN.out.mono ?_
    rintro e w2 ⟨⟨nm, ar, bn0, rfl, hnk, _⟩, hx⟩
    have HNK := Lib.hid (show bn0 = true → th.kindC from fun h => (by obtain ⟨_, _, _, rfl, hk⟩ := hnk h; exact hk))
    clear hnk
    have S2 := Lib.hid (SR.out.below hx)
    have TH2 := Lib.hid (TH.out.below hx)
    have TB2 := Lib.hid (TB.out.below hx)
    have hl2 := S2.out.lt
    clear hx CN y0 y1 y2 y3 hlR
    obtain ⟨y0, y1, y2, y3⟩ := box4t S2.out.hd
    obtain ⟨z0, z1, z2, z3⟩ := box4t S2.out.r1
    obtain ⟨u0, u1, u2, u3⟩ := box4t S2.out.r2
    have zf : ∀ j, w2.frozen? ⟨w.heap.size + 1, j, none⟩ = false := fun j => by simp [World.frozen?, S2.out.r1]
    have uf : ∀ j, w2.frozen? ⟨w.heap.size + 1 + 1, j, none⟩ = false := fun j => by simp [World.frozen?, S2.out.r2]
    cases bn0 with
    | false =>
      go_wp2_with fail
      have P1 := box_put4 S2.out.r1 (.int .i64 0) (.int .i64 0) (.string ⟨#[]⟩) (.slice none 0 0) rfl
      have P2 := box_put4 ((P1.2.2.1 (w.heap.size + 1 + 1) (by omega)).trans S2.out.r2) (.int .i64 0) (.int .i64 0) (.string ⟨#[]⟩) (.slice none 0 0) rfl
      obtain ⟨p0, p1, p2, p3⟩ := box4t ((P2.2.2.1 (w.heap.size + 1) (by omega)).trans P1.1)
      obtain ⟨o0, o1, o2, o3⟩ := box4t P2.1
      refine bodyPost_ret (v := .tuple #[.agg #[.int .i64 0, .int .i64 0, .string ⟨#[]⟩, .slice none 0 0], .agg #[.int .i64 0, .int .i64 0, .string ⟨#[]⟩, .slice none 0 0], .int .i64 100]) (by simp [results, go_sem, p0, p1, p2, p3, o0, o1, o2, o3]) rfl ?_
      exact ⟨⟨_, _, _, _, _, _, _, _, _, _, _, _, _, rfl, fun h => absurd h (by decide)⟩, P2.2.2.2 _ _ (by omega) (P1.2.2.2 _ _ (by omega) S2.out.low)⟩
    | true =>
      have CQ := Lib.hid (control_any OH.out TH2.out)
      go_wp2_with fail
      refine CQ.out.mono ?_
      rintro e w3 ⟨⟨bq0, rfl, _⟩, hx⟩
      have S3 := Lib.hid (S2.out.below hx)
      have TH3 := Lib.hid (TH2.out.below hx)
      have TB3 := Lib.hid (TB2.out.below hx)
      have hl3 := S3.out.lt
      clear hx CQ y0 y1 y2 y3 z0 z1 z2 z3 u0 u1 u2 u3 zf uf
      obtain ⟨y0, y1, y2, y3⟩ := box4t S3.out.hd
      obtain ⟨z0, z1, z2, z3⟩ := box4t S3.out.r1
      obtain ⟨u0, u1, u2, u3⟩ := box4t S3.out.r2
      have zf : ∀ j, w3.frozen? ⟨w.heap.size + 1, j, none⟩ = false := fun j => by simp [World.frozen?, S3.out.r1]
      have uf : ∀ j, w3.frozen? ⟨w.heap.size + 1 + 1, j, none⟩ = false := fun j => by simp [World.frozen?, S3.out.r2]
      cases bq0 with
      | true =>
        go_wp2_with fail
        have P1 := box_put4 S3.out.r1 (.int .i64 0) (.int .i64 0) (.string ⟨#[]⟩) (.slice none 0 0) rfl
        have P2 := box_put4 ((P1.2.2.1 (w.heap.size + 1 + 1) (by omega)).trans S3.out.r2) (.int .i64 0) (.int .i64 0) (.string ⟨#[]⟩) (.slice none 0 0) rfl
        obtain ⟨p0, p1, p2, p3⟩ := box4t ((P2.2.2.1 (w.heap.size + 1) (by omega)).trans P1.1)
        obtain ⟨o0, o1, o2, o3⟩ := box4t P2.1
        refine bodyPost_ret (v := .tuple #[.agg #[.int .i64 0, .int .i64 0, .string ⟨#[]⟩, .slice none 0 0], .agg #[.int .i64 0, .int .i64 0, .string ⟨#[]⟩, .slice none 0 0], .int .i64 100]) (by simp [results, go_sem, p0, p1, p2, p3, o0, o1, o2, o3]) rfl ?_
        exact ⟨⟨_, _, _, _, _, _, _, _, _, _, _, _, _, rfl, fun h => absurd h (by decide)⟩, P2.2.2.2 _ _ (by omega) (P1.2.2.2 _ _ (by omega) S3.out.low)⟩
      | false =>
        obtain ⟨bq1, hbq⟩ := someIs th ⟨#[58, 45]⟩ 1
        have CQ := Lib.hid (is_any OH.out TH3.out ⟨#[58, 45]⟩ 1 hbq)
        clear hbq
        go_wp2_with fail
        refine CQ.out.mono ?_
        rintro e w4 ⟨rfl, hx⟩
        have S4 := Lib.hid (S3.out.below hx)
        have TH4 := Lib.hid (TH3.out.below hx)
        have TB4 := Lib.hid (TB3.out.below hx)
        have hl4 := S4.out.lt
        clear hx CQ y0 y1 y2 y3 z0 z1 z2 z3 u0 u1 u2 u3 zf uf
        obtain ⟨y0, y1, y2, y3⟩ := box4t S4.out.hd
        obtain ⟨z0, z1, z2, z3⟩ := box4t S4.out.r1
        obtain ⟨u0, u1, u2, u3⟩ := box4t S4.out.r2
        have zf : ∀ j, w4.frozen? ⟨w.heap.size + 1, j, none⟩ = false := fun j => by simp [World.frozen?, S4.out.r1]
        have uf : ∀ j, w4.frozen? ⟨w.heap.size + 1 + 1, j, none⟩ = false := fun j => by simp [World.frozen?, S4.out.r2]
        cases bq1 with
        | true =>
          go_wp2_with fail
          have P1 := box_put4 S4.out.r1 (.int .i64 0) (.int .i64 0) (.string ⟨#[]⟩) (.slice none 0 0) rfl
          have P2 := box_put4 ((P1.2.2.1 (w.heap.size + 1 + 1) (by omega)).trans S4.out.r2) (.int .i64 0) (.int .i64 0) (.string ⟨#[]⟩) (.slice none 0 0) rfl
          obtain ⟨p0, p1, p2, p3⟩ := box4t ((P2.2.2.1 (w.heap.size + 1) (by omega)).trans P1.1)
          obtain ⟨o0, o1, o2, o3⟩ := box4t P2.1
          refine bodyPost_ret (v := .tuple #[.agg #[.int .i64 0, .int .i64 0, .string ⟨#[]⟩, .slice none 0 0], .agg #[.int .i64 0, .int .i64 0, .string ⟨#[]⟩, .slice none 0 0], .int .i64 100]) (by simp [results, go_sem, p0, p1, p2, p3, o0, o1, o2, o3]) rfl ?_
          exact ⟨⟨_, _, _, _, _, _, _, _, _, _, _, _, _, rfl, fun h => absurd h (by decide)⟩, P2.2.2.2 _ _ (by omega) (P1.2.2.2 _ _ (by omega) S4.out.low)⟩
        | false =>
          obtain ⟨bq2, hbq⟩ := someIs th ⟨#[58, 45]⟩ 2
          have CQ := Lib.hid (is_any OH.out TH4.out ⟨#[58, 45]⟩ 2 hbq)
          clear hbq
          go_wp2_with fail
          refine CQ.out.mono ?_
          rintro e w5 ⟨rfl, hx⟩
          have S5 := Lib.hid (S4.out.below hx)
          have TH5 := Lib.hid (TH4.out.below hx)
          have TB5 := Lib.hid (TB4.out.below hx)
          have hl5 := S5.out.lt
          clear hx CQ y0 y1 y2 y3 z0 z1 z2 z3 u0 u1 u2 u3 zf uf
          obtain ⟨y0, y1, y2, y3⟩ := box4t S5.out.hd
          obtain ⟨z0, z1, z2, z3⟩ := box4t S5.out.r1
          obtain ⟨u0, u1, u2, u3⟩ := box4t S5.out.r2
          have zf : ∀ j, w5.frozen? ⟨w.heap.size + 1, j, none⟩ = false := fun j => by simp [World.frozen?, S5.out.r1]
          have uf : ∀ j, w5.frozen? ⟨w.heap.size + 1 + 1, j, none⟩ = false := fun j => by simp [World.frozen?, S5.out.r2]
          cases bq2 with
          | true =>
            go_wp2_with fail
            have P1 := box_put4 S5.out.r1 (.int .i64 0) (.int .i64 0) (.string ⟨#[]⟩) (.slice none 0 0) rfl
            have P2 := box_put4 ((P1.2.2.1 (w.heap.size + 1 + 1) (by omega)).trans S5.out.r2) (.int .i64 0) (.int .i64 0) (.string ⟨#[]⟩) (.slice none 0 0) rfl
            obtain ⟨p0, p1, p2, p3⟩ := box4t ((P2.2.2.1 (w.heap.size + 1) (by omega)).trans P1.1)
            obtain ⟨o0, o1, o2, o3⟩ := box4t P2.1
            refine bodyPost_ret (v := .tuple #[.agg #[.int .i64 0, .int .i64 0, .string ⟨#[]⟩, .slice none 0 0], .agg #[.int .i64 0, .int .i64 0, .string ⟨#[]⟩, .slice none 0 0], .int .i64 100]) (by simp [results, go_sem, p0, p1, p2, p3, o0, o1, o2, o3]) rfl ?_
            exact ⟨⟨_, _, _, _, _, _, _, _, _, _, _, _, _, rfl, fun h => absurd h (by decide)⟩, P2.2.2.2 _ _ (by omega) (P1.2.2.2 _ _ (by omega) S5.out.low)⟩
          | false =>
            obtain ⟨v0, v1, v2, v3⟩ := box4t S5.out.bd
            have CG := Lib.hid (goals_any OB.out (fun b hb => by have := hN b hb; have := S5.out.low.size; omega) TB5.out)
            go_wp2_with fail
            refine CG.out.mono ?_
            rintro e w9 ⟨⟨vg, er, gs, Pg, qs, rfl, _, _, _, _, HCT⟩, hx⟩
            have S9 := Lib.hid (S5.out.below hx)
            have TH9 := Lib.hid (TH5.out.below hx)
            have TB9 := Lib.hid (TB5.out.below hx)
            have hl9 := S9.out.lt
            clear hx CG y0 y1 y2 y3 z0 z1 z2 z3 u0 u1 u2 u3 v0 v1 v2 v3 zf uf
            obtain ⟨y0, y1, y2, y3⟩ := box4t S9.out.hd
            obtain ⟨z0, z1, z2, z3⟩ := box4t S9.out.r1
            obtain ⟨u0, u1, u2, u3⟩ := box4t S9.out.r2
            have zf : ∀ j, w9.frozen? ⟨w.heap.size + 1, j, none⟩ = false := fun j => by simp [World.frozen?, S9.out.r1]
            have uf : ∀ j, w9.frozen? ⟨w.heap.size + 1 + 1, j, none⟩ = false := fun j => by simp [World.frozen?, S9.out.r2]
            obtain ⟨v0, v1, v2, v3⟩ := box4t S9.out.bd
            cases her : (er == 0) with
            | false =>
              go_wp2_with fail
              have P1 := box_put4 S9.out.r1 (.int .i64 0) (.int .i64 0) (.string ⟨#[]⟩) (.slice none 0 0) rfl
              have P2 := box_put4 ((P1.2.2.1 (w.heap.size + 1 + 1) (by omega)).trans S9.out.r2) (.int .i64 0) (.int .i64 0) (.string ⟨#[]⟩) (.slice none 0 0) rfl
              obtain ⟨p0, p1, p2, p3⟩ := box4t ((P2.2.2.1 (w.heap.size + 1) (by omega)).trans P1.1)
              obtain ⟨o0, o1, o2, o3⟩ := box4t P2.1
              refine bodyPost_ret (v := .tuple #[.agg #[.int .i64 0, .int .i64 0, .string ⟨#[]⟩, .slice none 0 0], .agg #[.int .i64 0, .int .i64 0, .string ⟨#[]⟩, .slice none 0 0], .int .i64 101]) (by simp [results, go_sem, p0, p1, p2, p3, o0, o1, o2, o3]) rfl ?_
              exact ⟨⟨_, _, _, _, _, _, _, _, _, _, _, _, _, rfl, fun h => absurd h (by decide)⟩, P2.2.2.2 _ _ (by omega) (P1.2.2.2 _ _ (by omega) S9.out.low)⟩
            | true =>
              have HER := Lib.hid her
              go_wp2_with fail
              have q12 : w.heap.size + 1 ≠ w.heap.size + 2 := by omega
              have q13 : w.heap.size + 1 ≠ w.heap.size + 3 := by omega
              have q14 : w.heap.size + 1 ≠ w.heap.size + 4 := by omega
              go_region
              obtain ⟨WA, hWA⟩ : ∃ WA, (((w9.setCell ⟨w.heap.size + 1, 0, none⟩ (.int .i64 c0)).setCell ⟨w.heap.size + 1, 1, none⟩ (.int .i64 c1)).setCell ⟨w.heap.size + 1, 2, none⟩ (.string c2)).setCell ⟨w.heap.size + 1, 3, none⟩ (.slice c3 c4 c5) = WA := ⟨_, rfl⟩
              have P1 := box_put4 S9.out.r1 (.int .i64 c0) (.int .i64 c1) (.string c2) (.slice c3 c4 c5) hWA
              obtain ⟨WB, hWB⟩ : ∃ WB, (((WA.setCell ⟨w.heap.size + 1 + 1, 0, none⟩ (.int .i64 e0)).setCell ⟨w.heap.size + 1 + 1, 1, none⟩ (.int .i64 e1)).setCell ⟨w.heap.size + 1 + 1, 2, none⟩ (.string e2)).setCell ⟨w.heap.size + 1 + 1, 3, none⟩ (.slice e3 e4 e5) = WB := ⟨_, rfl⟩
              have P2 := box_put4 ((P1.2.2.1 (w.heap.size + 1 + 1) (by omega)).trans S9.out.r2) (.int .i64 e0) (.int .i64 e1) (.string e2) (.slice e3 e4 e5) hWB
              rw [hWA, hWB]
              have PX := Lib.hid (show ∀ (u : T) (x : Value), TP w9 S u x → TP WB.drew S u x from fun u x hu => TP.keep (w' := WB.drew) (S' := S) (fun b cs f hS hb => by
                have hS' := hN b hS
                exact ⟨(P2.2.2.1 b (by omega)).trans ((P1.2.2.1 b (by omega)).trans hb), hS⟩) hu)
              have PB := Lib.hid ((P2.2.2.2 _ _ (by omega) (P1.2.2.2 _ _ (by omega) S9.out.low)).drew)
              obtain ⟨p0, p1, p2, p3⟩ := box4t (w := WB.drew) ((P2.2.2.1 (w.heap.size + 1) (by omega)).trans P1.1)
              obtain ⟨o0, o1, o2, o3⟩ := box4t (w := WB.drew) P2.1
              clear P1 P2 hWA hWB
              go_wp2_with fail
              refine bodyPost_ret (v := .tuple #[.agg #[.int .i64 c0, .int .i64 c1, .string c2, .slice c3 c4 c5], .agg #[.int .i64 e0, .int .i64 e1, .string e2, .slice e3 e4 e5], .int .i64 0]) (by simp [results, go_sem, p0, p1, p2, p3, o0, o1, o2, o3]) rfl ?_
              exact ⟨⟨_, _, _, _, _, _, _, _, _, _, _, _, _, rfl, fun _ => ⟨th, tb, PX.out _ _ TH9.out, PX.out _ _ TB9.out, OH.out.1, OB.out.1, NN.out, Lib.hid ⟨HNK.out (by first | rfl | trivial), HCT.out (by simpa using HER.out), NM.out.1, NM.out.2⟩⟩⟩, PB.out⟩
end Go.Proofs.YtlgeepjlnjlgdaaDoor
