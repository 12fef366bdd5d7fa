/- The walks through coneyref06.parts and Good. -/
import Derived.Test.YtiefbdblefliaaaDoorGe
import Derived.Test.YtiefbdblefliaaaDoorGd
import Derived.Test.YtiefbdblefliaaaDoorLq1
namespace Go.Proofs.YtiefbdblefliaaaDoor
open Go.RowKit

theorem quote_emp {s : ByteArray} : ((quoteN s).toList == []) = decide ((quoteN s).size = 0) := by
  have e : (quoteN s).size = (quoteN s).data.toList.length := Array.length_toList.symm
  rw [ByteArray.toList_eq, e]
  cases h : (quoteN s).data.toList with
  | nil => rfl
  | cons c l => simp
theorem quote_yes {s : ByteArray} (h : ((quoteN s).toList == []) = true) : (quoteN s).size = 0 := by
  rw [quote_emp] at h
  exact of_decide_eq_true h
theorem quote_no {s : ByteArray} (h : ((quoteN s).toList == []) = false) : (quoteN s).size ≠ 0 := by
  rw [quote_emp] at h
  exact of_decide_eq_false h
theorem legal_var {n : Int} {s : ByteArray} {m : Nat} {a : Nat → T} : (T.mk 1 n s m a).legal ↔ 0 ≤ n := by
  constructor
  · rintro (h | h | h | h)
    · exact h.2
    · exact absurd h (by decide)
    · exact absurd h.1 (by decide)
    · exact absurd h.1 (by decide)
  · exact fun h => .inl ⟨rfl, h⟩
theorem legal_atom {n : Int} {s : ByteArray} {m : Nat} {a : Nat → T} : (T.mk 3 n s m a).legal ↔ (quoteN s).size ≠ 0 := by
  constructor
  · rintro (h | h | h | h)
    · exact absurd h.1 (by decide)
    · exact absurd h (by decide)
    · exact h.2
    · exact absurd h.1 (by decide)
  · exact fun h => .inr (.inr (.inl ⟨rfl, h⟩))
theorem legal_cmp {n : Int} {s : ByteArray} {m : Nat} {a : Nat → T} (h : (T.mk 4 n s m a).legal) : (quoteN s).size ≠ 0 ∧ 0 < m := by
  rcases h with h | h | h | h
  · exact absurd h.1 (by decide)
  · exact absurd h (by decide)
  · exact absurd h.1 (by decide)
  · exact ⟨h.2.1, h.2.2.1⟩
theorem legal_no {k n : Int} {s : ByteArray} {m : Nat} {a : Nat → T} (h1 : k ≠ 1) (h2 : k ≠ 2) (h3 : k ≠ 3) (h4 : k ≠ 4) : ¬ (T.mk k n s m a).legal := by
  rintro (h | h | h | h)
  · exact h1 h.1
  · exact h2 h
  · exact h3 h.1
  · exact h4 h.1
set_option maxRecDepth 100000 in
set_option maxHeartbeats 8000000 in
theorem parts_any : ∀ t : T, t.short → ∀ (left : Int) (S : Nat) (v : Value) (w : World), left ≤ 100000 → -100000 ≤ left → GT w S t v →
    Calls Tryd.prog 24 #[v, .int .i64 left] w fun e w' => (∃ r, e = .returned (.int .i64 r) ∧ Hid (PartsR t left r)) ∧ Below w.heap.size w w' := by
  intro t
  induction t with
  | nil => intro _ _ S v w _ _ hv; exact hv.tin.elim
  | mk k n s m a ih =>
    intro hsh left S v w hle hge hv
    obtain ⟨k', n', s', A, m', c, rfl⟩ := hv.agg
    obtain ⟨e0, e1, e2, rfl, hmc, hA, _⟩ := hv.args
    injection e0 with _ e0
    injection e1 with _ e1
    injection e2 with e2
    subst e0; subst e1; subst e2
    have HV := Lib.hid hv
    have HS := Lib.hid hsh
    have IH := Lib.hid ih
    have hs4 : s'.size ≤ 4096 := hsh.1
    have BX := Lib.hid (belA (Below.refl w.heap.size w) (Obj.cells #[.int .i64 k', .int .i64 n', .string s', .slice A m' c] 24))
    clear hv hsh ih hA
    by_cases h0 : left ≤ 0
    · have P0 := Lib.hid (parts_none (t := .mk k' n' s' m' a) h0)
      go_enter Tryd.func24, Tryd.ntmps24
      go_wp2_with fail
      go_ret
      exact ⟨⟨_, rfl, P0⟩, BX.out⟩
    obtain ⟨L, rfl⟩ : ∃ L : Int, left = L + 1 := ⟨left - 1, by omega⟩
    have hL0 : 0 ≤ L := by omega
    have hL1 : L + 1 - 1 = L := by omega
    have CQ := Lib.hid (rquote_any s' hs4 (w.alloc (Obj.cells #[.int .i64 k', .int .i64 n', .string s', .slice A m' c] 24)))
    by_cases h1 : k' = 1
    · subst h1
      by_cases hn : n' < 0
      · have P := Lib.hid (parts_bad (L := L + 1) (show ¬ (T.mk 1 n' s' m' a).legal by rw [legal_var]; omega))
        go_enter Tryd.func24, Tryd.ntmps24
        go_wp2_with fail
        go_ret
        exact ⟨⟨_, rfl, P⟩, BX.out⟩
      · have P := Lib.hid (parts_leaf (by decide) (show (T.mk 1 n' s' m' a).legal by rw [legal_var]; omega) hL0)
        go_enter Tryd.func24, Tryd.ntmps24
        go_wp2_with fail
        go_ret
        exact ⟨⟨_, rfl, P⟩, BX.out⟩
    by_cases h2 : k' = 2
    · subst h2
      have P := Lib.hid (parts_leaf (by decide) (show (T.mk 2 n' s' m' a).legal from .inr (.inl rfl)) hL0)
      go_enter Tryd.func24, Tryd.ntmps24
      go_wp2_with fail
      go_ret
      exact ⟨⟨_, rfl, P⟩, BX.out⟩
    by_cases h3 : k' = 3
    · subst h3
      cases hq : ((quoteN s').toList == []) with
      | true =>
        have P := Lib.hid (parts_bad (L := L + 1) (show ¬ (T.mk 3 n' s' m' a).legal by rw [legal_atom]; exact fun h => h (quote_yes hq)))
        go_enter Tryd.func24, Tryd.ntmps24
        go_wp2_with fail
        refine CQ.out.mono ?_
        rintro e w1 ⟨rfl, hb1⟩
        have B1 := Lib.hid (BX.out.trans (hb1.mono (by simp)))
        clear hb1
        go_wp2_with fail
        go_ret
        exact ⟨⟨_, rfl, P⟩, B1.out⟩
      | false =>
        have P := Lib.hid (parts_leaf (by decide) (show (T.mk 3 n' s' m' a).legal by rw [legal_atom]; exact quote_no hq) hL0)
        go_enter Tryd.func24, Tryd.ntmps24
        go_wp2_with fail
        refine CQ.out.mono ?_
        rintro e w1 ⟨rfl, hb1⟩
        have B1 := Lib.hid (BX.out.trans (hb1.mono (by simp)))
        clear hb1
        go_wp2_with fail
        go_ret
        exact ⟨⟨_, rfl, P⟩, B1.out⟩
    by_cases h4 : k' = 4
    · subst h4
      have X1 : ∀ w1, Below (w.alloc (Obj.cells #[.int .i64 4, .int .i64 n', .string s', .slice A m' c] 24)).heap.size (w.alloc (Obj.cells #[.int .i64 4, .int .i64 n', .string s', .slice A m' c] 24)) w1 → w1.heap[w.heap.size]? = some (.cells #[.int .i64 4, .int .i64 n', .string s', .slice A m' c] 24 (0, 0)) :=
        fun w1 h => (h.block w.heap.size (by simp)).trans (heap_alloc_new w _)
      have HX1 := Lib.hid X1
      clear X1
      cases hq : ((quoteN s').toList == []) with
      | true =>
        have P := Lib.hid (parts_bad (L := L + 1) (show ¬ (T.mk 4 n' s' m' a).legal from fun h => (legal_cmp h).1 (quote_yes hq)))
        go_enter Tryd.func24, Tryd.ntmps24
        go_wp2_with fail
        refine CQ.out.mono ?_
        rintro e w1 ⟨rfl, hb1⟩
        have B1 := Lib.hid (BX.out.trans (hb1.mono (by simp)))
        clear hb1
        go_wp2_with fail
        go_ret
        exact ⟨⟨_, rfl, P⟩, B1.out⟩
      | false =>
        have HQ := Lib.hid (quote_no hq)
        by_cases hm0 : m' = 0
        · subst hm0
          have P := Lib.hid (parts_bad (L := L + 1) (show ¬ (T.mk 4 n' s' 0 a).legal from fun h => absurd (legal_cmp h).2 (by omega)))
          go_enter Tryd.func24, Tryd.ntmps24
          go_wp2_with fail
          refine CQ.out.mono ?_
          rintro e w1 ⟨rfl, hb1⟩
          have B1 := Lib.hid (BX.out.trans (hb1.mono (by simp)))
          obtain ⟨x0, x1, x2, x3⟩ := box4t (HX1.out w1 hb1)
          clear hb1
          go_wp2_with fail
          go_ret
          exact ⟨⟨_, rfl, P⟩, B1.out⟩
        have hm0' : ((m' : Int) == 0) = false := by simp; omega
        by_cases hmL : L < (m' : Int)
        · have P := Lib.hid (parts_many (s := s') (n := n') (a := a) rfl hmL)
          go_enter Tryd.func24, Tryd.ntmps24
          go_wp2_with fail
          refine CQ.out.mono ?_
          rintro e w1 ⟨rfl, hb1⟩
          have B1 := Lib.hid (BX.out.trans (hb1.mono (by simp)))
          obtain ⟨x0, x1, x2, x3⟩ := box4t (HX1.out w1 hb1)
          clear hb1
          go_wp2_with fail
          go_ret
          exact ⟨⟨_, rfl, P⟩, B1.out⟩
        have HDONE := Lib.hid (fun r (h : RowR m' a L m' r) => RowR.done (n := n') h rfl HQ.out (by omega))
        go_enter Tryd.func24, Tryd.ntmps24
        go_wp2_with fail
        refine CQ.out.mono ?_
        rintro e w1 ⟨rfl, hb1⟩
        have B1 := Lib.hid (BX.out.trans (hb1.mono (by simp)))
        have X2 := Lib.hid (HX1.out w1 hb1)
        obtain ⟨x0, x1, x2, x3⟩ := box4t X2.out
        clear hb1
        go_wp2_with fail
        go_loopw [1, 5] (fun lv iv wr => ∃ (r : Int) (i : Nat), lv = .int .i64 r ∧ iv = .int .i64 (i : Int) ∧ i ≤ m' ∧ r ≤ L ∧ -1 ≤ r ∧ Hid (RowR m' a L i r) ∧ Below w.heap.size w wr ∧ wr.heap[w.heap.size]? = some (.cells #[.int .i64 4, .int .i64 n', .string s', .slice A m' c] 24 (0, 0))) (fun _ iv _ => m' - (intOf iv).toNat)
        case atStart => exact ⟨L, 0, rfl, rfl, Nat.zero_le _, Int.le_refl _, by omega, Lib.hid (RowR.start hL0), B1.out, X2.out⟩
        case round =>
          clear B1 X2 x0 x1 x2 x3
          obtain ⟨r, i, rfl, rfl, hi, hrL, hr1, hR, hb, hbox⟩ := hrel
          have HB := Lib.hid hb
          have HX := Lib.hid hbox
          obtain ⟨x0, x1, x2, x3⟩ := box4t hbox
          have hbl := heap_lt hbox
          clear hb hbox
          by_cases him : i < m'
          · have him' : (i : Int) < (m' : Int) := by omega
            by_cases hr0 : 0 ≤ r
            · obtain ⟨_, _, _, _, _, _, hargs⟩ := (HV.out.below HB.out).args
              obtain ⟨g, o, k0, k1, k2, A0, m0, c0, rfl, _, hgl, d0, d1, d2, d3, ht⟩ := hargs i him
              have CI := Lib.hid (IH.out i (HS.out.2 i him) r S _ wr (by omega) (by omega) ht)
              clear hargs ht
              go_wp2_with fail
              refine CI.out.mono ?_
              rintro e w5 ⟨⟨r', rfl, hp⟩, h5⟩
              have B5 := Lib.hid (HB.out.trans (h5.mono HB.out.size))
              have X5 := Lib.hid ((h5.block _ hbl).trans HX.out)
              have hp1 : r' ≤ r ∧ -1 ≤ r' := by
                rcases hp.out with ⟨_, q2, q3⟩ | ⟨_, q2⟩
                · omega
                · omega
              have HR2 := Lib.hid (hR.out.step him hr0 hp.out)
              clear h5
              go_wp2_with fail
              go_roundw
              case rel => exact ⟨r', i + 1, rfl, by go_num, him, by omega, hp1.2, HR2, B5.out, X5.out⟩
              case measure => simp [intOf]; omega
            · have P := Lib.hid (HDONE.out r (hR.out.cut hr0))
              go_wp2_with fail
              go_ret
              exact ⟨⟨_, rfl, P⟩, HB.out⟩
          · obtain rfl : i = m' := by omega
            have P := Lib.hid (HDONE.out r hR.out)
            go_wp2_with fail
            go_ret
            exact ⟨⟨_, rfl, P⟩, HB.out⟩
    · have P := Lib.hid (parts_bad (L := L + 1) (legal_no (n := n') (s := s') (m := m') (a := a) h1 h2 h3 h4))
      have h1' : (k' == 1) = false := by simpa using h1
      have h2' : (k' == 2) = false := by simpa using h2
      have h3' : (k' == 3) = false := by simpa using h3
      have h4' : (k' == 4) = false := by simpa using h4
      clear h1 h2 h3 h4
      go_enter Tryd.func24, Tryd.ntmps24
      go_wp2_with fail
      go_ret
      exact ⟨⟨_, rfl, P⟩, BX.out⟩
theorem rgood_any {t : T} (hs : t.short) {S : Nat} {v : Value} {w : World} (hv : GT w S t v) :
    Calls Tryd.prog 16 #[v] w fun e w' => (∃ b, e = .returned (.bool b) ∧ Hid (b = true ↔ t.goodW)) ∧ Below w.heap.size w w' := by
  obtain ⟨k, n, s, A, m, c, rfl⟩ := hv.agg
  have BX := Lib.hid (belA (Below.refl w.heap.size w) (Obj.cells #[.int .i64 k, .int .i64 n, .string s, .slice A m c] 24))
  have CP := Lib.hid (parts_any t hs 1000 S _ _ (by omega) (by omega) (hv.below BX.out))
  clear hv
  go_enter Tryd.func16, Tryd.ntmps16
  go_wp2_with fail
  refine CP.out.mono ?_
  rintro e w1 ⟨⟨r, rfl, hp⟩, hb1⟩
  have B1 := Lib.hid (BX.out.trans (hb1.mono (by simp)))
  clear hb1
  by_cases h0 : 0 ≤ r
  · have P := Lib.hid (show True ↔ t.goodW by
      rcases hp.out with ⟨q1, q2, q3⟩ | ⟨_, q2⟩
      · exact ⟨fun _ => ⟨q1, by omega⟩, fun _ => trivial⟩
      · omega)
    go_wp2_with fail
    go_ret
    exact ⟨⟨_, rfl, Lib.hid ⟨fun _ => P.out.1 trivial, fun _ => by first | rfl | trivial⟩⟩, B1.out⟩
  · have P := Lib.hid (show ¬ t.goodW by
      rintro ⟨q1, q2⟩
      rcases hp.out with ⟨_, _, q3⟩ | ⟨q4, _⟩
      · omega
      · exact q4 ⟨q1, by omega⟩)
    go_wp2_with fail
    go_ret
    exact ⟨⟨decide (0 ≤ r), by first | rfl | simp [h0], Lib.hid ⟨fun h => absurd (of_decide_eq_true h) (by omega), fun h => absurd h P.out⟩⟩, B1.out⟩
end Go.Proofs.YtiefbdblefliaaaDoor
