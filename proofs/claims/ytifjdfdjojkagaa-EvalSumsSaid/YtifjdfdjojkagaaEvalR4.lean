/- The walk through coneyref13.Eval, for any term whose atoms have no arguments. -/
import Derived.Test.YtifjdfdjojkagaaEvalR3
import Derived.Test.YtifjdfdjojkagaaEvalR1
namespace Go.Proofs.Ytifjdfdjojkagaa
open Go.RowKit

theorem single_ : Single := fun s x w h hs => single_any s x w h.1 h.2 hs
theorem double_ : Double := fun s x y w h h' hs => double_any s x y w h.1 h.2 h'.1 h'.2 hs

theorem ev_kind {p q : Int} {s : ByteArray} {m : Nat} {k : Int} {s' : ByteArray} {n : Int} (h : ev p q s m = .flt k s' n) : ¬ k = 0 := by
  unfold ev at h
  by_cases h0 : q = 0
  · rw [if_pos h0] at h; cases h
  rw [if_neg h0] at h
  by_cases h1 : q = 11
  · rw [if_pos h1] at h; cases h; decide
  rw [if_neg h1] at h
  by_cases h2 : q = 10
  · rw [if_pos h2] at h; cases h; decide
  rw [if_neg h2] at h; cases h; decide
theorem evT_kind : ∀ t : T, ∀ k s n, evT t = .flt k s n → ¬ k = 0 := by
  intro t
  induction t with
  | nil => intro k s n h; cases h
  | mk k n s m a ih =>
    intro fk fs fn h
    unfold evT at h
    by_cases h2 : k = 2
    · rw [if_pos h2] at h; cases h
    rw [if_neg h2] at h
    by_cases h1 : k = 1
    · rw [if_pos h1] at h; cases h; decide
    rw [if_neg h1] at h
    by_cases m1 : m = 1
    · rw [if_pos m1] at h
      cases ho : isOne s.toList
      · rw [ho] at h; cases h; decide
      · rw [ho, if_pos rfl] at h
        cases h0 : evT (a 0) with
        | val y => rw [h0] at h; unfold ev1 at h; exact ev_kind h
        | flt k' s' n' => rw [h0] at h; unfold ev1 at h; cases h; exact ih 0 _ _ _ h0
    rw [if_neg m1] at h
    by_cases m2 : m = 2
    · rw [if_pos m2] at h
      cases ho : isTwo s.toList
      · rw [ho] at h; cases h; decide
      · rw [ho, if_pos rfl] at h
        cases h0 : evT (a 0) with
        | val y =>
          cases h1 : evT (a 1) with
          | val z => rw [h0, h1] at h; unfold ev2 at h; exact ev_kind h
          | flt k' s' n' => rw [h0, h1] at h; unfold ev2 at h; cases h; exact ih 1 _ _ _ h1
        | flt k' s' n' => rw [h0] at h; unfold ev2 at h; cases h; exact ih 0 _ _ _ h0
    rw [if_neg m2] at h
    cases h; decide

theorem refEval_any : ∀ t : T, t.inR → t.atoms → RefR t (evT t) := by
  intro t
  induction t with
  | nil => intro _ _ v w hv; exact hv.elim
  | mk k n s m a ih =>
    intro hr hat v w hv
    obtain ⟨A, c, rfl, hT⟩ := hv.open_
    unfold evT
    by_cases h2 : k = 2
    · subst h2; rw [if_pos rfl]; exact ref_int n s A m c w
    rw [if_neg h2]
    by_cases h1 : k = 1
    · subst h1; rw [if_pos rfl]; exact ref_var n s A m c w
    rw [if_neg h1]
    by_cases h3 : k = 3
    · have hm := hat.1 h3
      subst h3
      subst hm
      rw [if_neg (by decide), if_neg (by decide)]
      exact ref_atom n s A 0 c w
    have g2 : (k == 2) = false := by simpa using h2
    have g1 : (k == 1) = false := by simpa using h1
    have g3 : (k == 3) = false := by simpa using h3
    by_cases m1 : m = 1
    · subst m1
      rw [if_pos rfl]
      cases ho : isOne s.toList
      · rw [if_neg (by decide)]
        exact ref_one_no k n s A c w g1 g2 g3 ho
      · rw [if_pos rfl]
        exact ref_one k n s a A c w hT _ (ih 0 (hr.2 0 (by omega)) (hat.2 0 (by omega))) (evT_inR _ (hr.2 0 (by omega))) (evT_kind _) g1 g2 g3 ho single_
    rw [if_neg m1]
    by_cases m2 : m = 2
    · subst m2
      rw [if_pos rfl]
      cases ho : isTwo s.toList
      · rw [if_neg (by decide)]
        exact ref_two_no k n s A c w g1 g2 g3 ho
      · rw [if_pos rfl]
        exact ref_two k n s a A c w hT _ _ (ih 0 (hr.2 0 (by omega)) (hat.2 0 (by omega))) (ih 1 (hr.2 1 (by omega)) (hat.2 1 (by omega))) (evT_inR _ (hr.2 0 (by omega))) (evT_inR _ (hr.2 1 (by omega))) (evT_kind _) (evT_kind _) g1 g2 g3 ho double_
    rw [if_neg m2]
    exact ref_many k n s A m c w g1 g2 g3 (by simp; omega) (by simp; omega)
end Go.Proofs.Ytifjdfdjojkagaa
