/- The walk of WriteBack. -/
import Derived.Test.YtiefbdblefliaaaDoorWt5
import Derived.Test.YtiefbdblefliaaaDoorAlk
import Derived.Test.YtiefbdblefliaaaDoorCwTerms
namespace Go.Proofs.YtiefbdblefliaaaDoor
open Go.RowKit

/-- What One answers, as the laws of writing want it. -/
theorem one_term {s : ByteArray} {w w' : World} {k n : Int} {nm : ByteArray} {A : Option Addr} {m c : Nat} {p er : Int}
    (h0 : er = 0 → ∃ (t : T) (ns : List ByteArray), sentN s = .ok (t, ns) ∧ TP w' (fun b => w.heap.size ≤ b) t (.agg #[.int .i64 k, .int .i64 n, .string nm, .slice A m c]) ∧ t.good ∧ t.nodes ≤ 1000)
    (h1 : er ≠ 0 → sentN s = .error (p, er) ∧ k = 0 ∧ n = 0 ∧ nm = ⟨#[]⟩ ∧ A = none ∧ m = 0 ∧ c = 0) :
    ∃ t : T, GT w' w'.heap.size t (.agg #[.int .i64 k, .int .i64 n, .string nm, .slice A m c]) ∧ t.fit ∧ t.nodes ≤ 1000 ∧ (er = 0 → ∃ ns, sentN s = .ok (t, ns)) ∧ (er ≠ 0 → sentN s = .error (p, er) ∧ ¬ t.goodW) := by
  by_cases he : er = 0
  · obtain ⟨t, ns, h2, h3, h4, h5⟩ := h0 he
    exact ⟨t, h3.gt, good_fit h4, h5, fun _ => ⟨ns, h2⟩, fun h => absurd he h⟩
  · obtain ⟨h2, rfl, rfl, rfl, rfl, rfl, rfl⟩ := h1 he
    refine ⟨.mk 0 0 ⟨#[]⟩ 0 fun _ => .nil, (TP.leaf w' (fun _ => True) 0 0 ⟨#[]⟩).gt, ⟨⟨by decide, by decide⟩, by decide, fun i h => absurd h (by omega)⟩, by decide, fun h => absurd h he, fun _ => ⟨h2, fun h => ?_⟩⟩
    rcases h.1 with h | h | h | h
    · exact absurd h.1 (by decide)
    · exact absurd h (by decide)
    · exact absurd h.1 (by decide)
    · exact absurd h.1 (by decide)
theorem text_empty {nm : List ByteArray} {t : T} {s : ByteArray} (h : TextOf nm t s) (hf : t.fit) : ((s.toList == []) = false ∧ t.goodW ∧ t.wr ∧ s = ba (txB (nmV nm) t).1) ∨ ((s.toList == []) = true ∧ ¬ t.goodW) := by
  rcases h with ⟨h1, rfl⟩ | ⟨h1, rfl⟩
  · have hw := legal_wr h1.1 hf
    refine .inl ⟨?_, h1, hw, rfl⟩
    rw [eq_str]
    refine decide_eq_false fun e => tx_pos (nm := nm) hw ?_
    rw [← ba_list (txB (nmV nm) t).1, e, ba_list]
  · exact .inr ⟨by rw [eq_str]; exact decide_eq_true rfl, h1⟩
set_option maxRecDepth 100000 in
set_option maxHeartbeats 8000000 in
theorem writeback_any (s : ByteArray) (w : World) (hT : TabX w) :
    Calls Tryd.prog 7 #[.string s] w fun e w' => e = .returned (.bool true) ∧ Below w.heap.size w w' := by
  by_cases hbig : (2048 : Int) < (s.size : Int)
  · go_enter Tryd.func7, Tryd.ntmps7
    go_wp2_with fail
    go_ret
    exact ⟨rfl, Below.refl _ _⟩
  have HTX := Lib.hid hT
  have CO := Lib.hid (onex_any s w)
  clear hT
  go_enter Tryd.func7, Tryd.ntmps7
  go_wp2_with fail
  refine CO.out.mono ?_
  rintro e w1 ⟨⟨k, n, nm, A, m, c, NA, nn, nc, p, er, rfl, h0, h1⟩, hb1⟩
  have B1 := Lib.hid hb1
  obtain ⟨t, hg, hf, hn, hok, hbad⟩ := one_term h0.out (fun h => (h1.out h).imp id fun ⟨a1, a2, a3, a4, a5, a6, _⟩ => ⟨a1, a2, a3, a4, a5, a6⟩)
  have G1 := Lib.hid hg
  have HF := Lib.hid hf
  have HOK := Lib.hid hok
  have HBAD := Lib.hid hbad
  clear hb1 h0 h1 hg hok hbad CO
  obtain ⟨s0, hs0⟩ := text_of [] t
  have HS0 := Lib.hid hs0
  have hse := text_empty hs0 hf
  have BA := Lib.hid (belA (Below.refl w1.heap.size w1) (Obj.cells #[.int .i64 k, .int .i64 n, .string nm, .slice A m c, .slice NA nn nc] 27))
  have XA := Lib.hid (heap_alloc_new w1 (Obj.cells #[.int .i64 k, .int .i64 n, .string nm, .slice A m c, .slice NA nn nc] 27))
  have CP := Lib.hid ((pwrite_any (by omega) hf _ _ _ (G1.out.below BA.out) ((HTX.out.below B1.out).below BA.out)).mono fun e w' h => nm_fix HS0.out h)
  clear hs0
  go_wp2_with fail
  refine CP.out.mono ?_
  rintro e w2 ⟨rfl, hb2⟩
  have B2 := Lib.hid (BA.out.trans (hb2.mono BA.out.size))
  have X2 := Lib.hid ((hb2.block w1.heap.size (by simp)).trans XA.out)
  obtain ⟨x0, x1, x2, x3, _⟩ := box5 X2.out
  have hx2 := heap_lt X2.out
  have CR := Lib.hid ((rwrite_any (by omega) HF.out _ _ w2 (G1.out.below B2.out)).mono fun e w' h => nm_fix HS0.out h)
  have hss : (s0.toList == s0.toList) = true := beq_self_eq_true _
  clear hb2 CP hf
  go_wp2_with fail
  refine CR.out.mono ?_
  rintro e w3 ⟨rfl, hb3⟩
  have B3 := Lib.hid (B2.out.trans (hb3.mono B2.out.size))
  have X3 := Lib.hid ((hb3.block _ hx2).trans X2.out)
  have hx3 := heap_lt X3.out
  have W3 := Lib.hid (B1.out.trans (B3.out.mono B1.out.size))
  clear hb3 CR x0 x1 x2 x3
  by_cases he : er = 0
  · subst he
    rcases hse with ⟨hse, hgd, hwr, hs0⟩ | ⟨hse, hgd⟩
    · have HS := Lib.hid (back_alike hwr HF.out hs0)
      have C2 := Lib.hid (onex_any s0 w3)
      clear hs0 hgd
      go_wp2_with fail
      refine C2.out.mono ?_
      rintro e w4 ⟨⟨k2, n2, nm2, A2, m2, c2, NA2, nn2, nc2, p2, er2, rfl, h0, h1⟩, hb4⟩
      have B4 := Lib.hid (B3.out.trans (hb4.mono B3.out.size))
      have W4 := Lib.hid (W3.out.trans (hb4.mono W3.out.size))
      have X4 := Lib.hid ((hb4.block _ hx3).trans X3.out)
      have hx4 := heap_lt X4.out
      by_cases he2 : er2 = 0
      · subst he2
        obtain ⟨u, ns, h2, h3, _, _⟩ := h0.out rfl
        obtain ⟨qs, hq⟩ : ∃ qs, Alk t u [] qs := by
          rcases HS.out with ⟨_, _, h4, _⟩ | ⟨u', ns', qs, h4, h5⟩
          · rw [h4] at h2; cases h2
          · rw [h4] at h2
            injection h2 with h2
            injection h2 with h2 _
            subst h2
            exact ⟨qs, h5⟩
        have BZ := Lib.hid (belA (Below.refl w4.heap.size w4) (Obj.cells #[.int .i64 k2, .int .i64 n2, .string nm2, .slice A2 m2 c2, .slice NA2 nn2 nc2] 27))
        have B5 := Lib.hid (B4.out.trans (BZ.out.mono B4.out.size))
        have X5 := Lib.hid ((BZ.out.block _ hx4).trans X4.out)
        have Z5 := Lib.hid (heap_alloc_new w4 (Obj.cells #[.int .i64 k2, .int .i64 n2, .string nm2, .slice A2 m2 c2, .slice NA2 nn2 nc2] 27))
        have CA := Lib.hid (alike_any t u [] qs _ _ _ _ _ _ hq (G1.out.below B5.out) (h3.gt.below BZ.out) (PRw.nil _) (by simp; omega))
        obtain ⟨x0, x1, x2, x3, _⟩ := box5 X5.out
        obtain ⟨z0, z1, z2, z3, _⟩ := box5 Z5.out
        clear h0 h1 h2 h3 hb4 C2 hq
        go_wp2_with fail
        refine CA.out.mono ?_
        rintro e w5 ⟨v5, rfl, _, hb5⟩
        have W5 := Lib.hid ((W4.out.trans (BZ.out.mono W4.out.size)).trans (hb5.mono (Nat.le_trans W4.out.size BZ.out.size)))
        clear hb5 CA x0 x1 x2 x3 z0 z1 z2 z3
        go_wp2_with fail
        go_ret
        exact ⟨rfl, W5.out⟩
      · have hne : (er2 == 0) = false := beq_eq_false_iff_ne.2 he2
        have hor : er2 = 33 ∨ er2 = 34 ∨ er2 = 52 := by
          obtain ⟨h2, _⟩ := h1.out he2
          rcases HS.out with ⟨_, _, h4, h5⟩ | ⟨u', ns', qs, h4, h5⟩
          · rw [h4] at h2
            injection h2 with h2
            injection h2 with _ h2
            rw [← h2]; exact h5
          · rw [h4] at h2; cases h2
        have W5 := Lib.hid (belA W4.out (Obj.cells #[.int .i64 k2, .int .i64 n2, .string nm2, .slice A2 m2 c2, .slice NA2 nn2 nc2] 27))
        clear h0 h1 hb4 C2
        rcases hor with rfl | rfl | rfl
        all_goals
          go_wp2_with fail
          go_ret
          exact ⟨rfl, W5.out⟩
    · go_wp2_with fail
      go_ret
      exact ⟨rfl, W3.out⟩
  · have hne : (er == 0) = false := beq_eq_false_iff_ne.2 he
    have hse' : (s0.toList == []) = true := by
      rcases hse with ⟨_, h, _⟩ | ⟨h, _⟩
      · exact absurd h (HBAD.out he).2
      · exact h
    clear hse
    go_wp2_with fail
    go_ret
    exact ⟨rfl, W3.out⟩
end Go.Proofs.YtiefbdblefliaaaDoor
