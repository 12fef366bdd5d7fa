/- The walk through coneylaw06.light: how many parts a term has. -/
import Derived.Test.YtiefbdblefliaaaDoorWr0
namespace Go.Proofs.YtiefbdblefliaaaDoor
open Go.RowKit

/-- Its names are short. -/
def T.thin : T → Prop
  | .nil => True
  | .mk _ _ s m a => s.size ≤ 1024 ∧ ∀ i, i < m → (a i).thin
def LightR (t : T) (left r : Int) : Prop := r = -1 ∨ (0 ≤ r ∧ (t.nodes : Int) + r ≤ left ∧ t.thin)
set_option maxRecDepth 100000 in
set_option maxHeartbeats 4000000 in
theorem light_any : ∀ t : T, ∀ (left : Int) (S : Nat) (v : Value) (w : World), left ≤ 100000 → -100000 ≤ left → GT w S t v →
    Calls Tryd.prog 15 #[v, .int .i64 left] w fun e w' => (∃ r, e = .returned (.int .i64 r) ∧ Hid (LightR t left r)) ∧ Below w.heap.size w w' := by
  intro t
  induction t with
  | nil => intro _ S v w _ _ hv; exact hv.tin.elim
  | mk k n s m a ih =>
    intro left S v w hle hge hv
    obtain ⟨k', n', s', A, m', c, rfl⟩ := hv.agg
    obtain ⟨e0, e1, e2, rfl, hmc, hA, _⟩ := hv.args
    injection e0 with _ e0
    injection e1 with _ e1
    injection e2 with e2
    subst e0; subst e1; subst e2
    have HV := Lib.hid hv
    have IH := Lib.hid ih
    have BX := Lib.hid (belA (Below.refl w.heap.size w) (Obj.cells #[.int .i64 k', .int .i64 n', .string s', .slice A m' c] 24))
    have XB := Lib.hid (heap_alloc_new w (Obj.cells #[.int .i64 k', .int .i64 n', .string s', .slice A m' c] 24))
    have NO := Lib.hid (show LightR (.mk k' n' s' m' a) left (-1) from .inl rfl)
    clear hv ih hA
    by_cases hl0 : left ≤ 0
    · go_enter Tryd.func15, Tryd.ntmps15
      go_wp2_with fail
      go_ret
      exact ⟨⟨_, rfl, NO⟩, BX.out⟩
    by_cases hm : left < (m' : Int)
    · go_enter Tryd.func15, Tryd.ntmps15
      go_wp2_with fail
      go_ret
      exact ⟨⟨_, rfl, NO⟩, BX.out⟩
    by_cases hs : (1024 : Int) < (s'.size : Int)
    · go_enter Tryd.func15, Tryd.ntmps15
      go_wp2_with fail
      go_ret
      exact ⟨⟨_, rfl, NO⟩, BX.out⟩
    obtain ⟨L, rfl⟩ : ∃ L, left = L + 1 := ⟨left - 1, by omega⟩
    have hL1 : L + 1 - 1 = L := by omega
    have hm5 : m' ≤ 100000 := by omega
    have HS := Lib.hid (show s'.size ≤ 1024 by omega)
    have DONE := Lib.hid (show ∀ (r : Int), (r = -1 ∨ (0 ≤ r ∧ (sumTo m' (fun q => (a q).nodes) : Int) + r ≤ L ∧ ∀ q, q < m' → (a q).thin)) → LightR (.mk k' n' s' m' a) (L + 1) r from fun r h => by
      rcases h with h | ⟨h1, h2, h3⟩
      · exact .inl h
      · exact .inr ⟨h1, by simp only [T.nodes]; omega, HS.out, h3⟩)
    go_enter Tryd.func15, Tryd.ntmps15
    go_wp2_with fail
    go_loopw [1, 5] (fun lv iv wr => ∃ (r : Int) (i : Nat), lv = .int .i64 r ∧ iv = .int .i64 (i : Int) ∧ i ≤ m' ∧ r ≤ L ∧ -1 ≤ r ∧ Hid (r = -1 ∨ (0 ≤ r ∧ (sumTo i (fun q => (a q).nodes) : Int) + r ≤ L ∧ ∀ q, q < i → (a q).thin)) ∧ Below w.heap.size w wr ∧ wr.heap[w.heap.size]? = some (.cells #[.int .i64 k', .int .i64 n', .string s', .slice A m' c] 24 (0, 0))) (fun _ iv _ => m' - (intOf iv).toNat)
    case atStart => exact ⟨L, 0, rfl, rfl, Nat.zero_le _, Int.le_refl _, by omega, Lib.hid (.inr ⟨by omega, by simp [sumTo], fun q h => absurd h (by omega)⟩), BX.out, XB.out⟩
    case round =>
      clear BX XB
      obtain ⟨r, i, rfl, rfl, hi, hrL, hr1, hR, hb, hbox⟩ := hrel
      have HB := Lib.hid hb
      have HX := Lib.hid hbox
      obtain ⟨x0, x1, x2, x3⟩ := box4t hbox
      have hbl := heap_lt hbox
      clear hb hbox
      by_cases him : i < m'
      · have him' : (i : Int) < (m' : Int) := by omega
        by_cases hr0 : 0 ≤ r
        · obtain ⟨_, _, _, _, _, _, hargs⟩ := (HV.out.below HB.out).args
          obtain ⟨g, o, k0, k1, k2, A0, m0, c0, rfl, _, hgl, d0, d1, d2, d3, ht⟩ := hargs i him
          have CI := Lib.hid (IH.out i r S _ wr (by omega) (by omega) ht)
          clear hargs ht
          go_wp2_with fail
          refine CI.out.mono ?_
          rintro e w5 ⟨⟨r', rfl, hp⟩, h5⟩
          have B5 := Lib.hid (HB.out.trans (h5.mono HB.out.size))
          have X5 := Lib.hid ((h5.block _ hbl).trans HX.out)
          have hp1 : r' ≤ r ∧ -1 ≤ r' := by
            rcases hp.out with q | ⟨q1, q2, q3⟩
            · omega
            · omega
          have HR2 := Lib.hid (show r' = -1 ∨ (0 ≤ r' ∧ (sumTo (i + 1) (fun q => (a q).nodes) : Int) + r' ≤ L ∧ ∀ q, q < i + 1 → (a q).thin) from by
            rcases hp.out with q | ⟨q1, q2, q3⟩
            · exact .inl q
            · rcases hR.out with z | ⟨z1, z2, z3⟩
              · omega
              · refine .inr ⟨q1, by simp only [sumTo]; omega, fun q hq => ?_⟩
                rcases Nat.lt_or_ge q i with h | h
                · exact z3 q h
                · obtain rfl : q = i := by omega
                  exact q3)
          clear h5
          go_wp2_with fail
          go_roundw
          case rel => exact ⟨r', i + 1, rfl, by go_num, him, by omega, hp1.2, HR2, B5.out, X5.out⟩
          case measure => simp [intOf]; omega
        · have P := Lib.hid (DONE.out r (.inl (by omega)))
          go_wp2_with fail
          go_ret
          exact ⟨⟨_, rfl, P⟩, HB.out⟩
      · obtain rfl : i = m' := by omega
        have P := Lib.hid (DONE.out r hR.out)
        go_wp2_with fail
        go_ret
        exact ⟨⟨_, rfl, P⟩, HB.out⟩
end Go.Proofs.YtiefbdblefliaaaDoor
