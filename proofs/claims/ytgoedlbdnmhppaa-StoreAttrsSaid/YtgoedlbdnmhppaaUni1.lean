/- Unification on plain terms: one pair; a stack of pairs. -/
import Derived.Test.YtgoedlbdnmhppaaUni0
namespace Go.Proofs.Ytgoedlbdnmhppaa
open Go.RowKit

/-- What one pair comes to. -/
inductive Out where
  | bind (n : Int) (t : T)
  | fail
  | args (m : Nat) (f g : Nat → T)
open Classical in
/-- One pair of which both sides are what they stand for. -/
noncomputable def stepU (L : Bs) (a b : T) : Out := match a, b with
  | .mk ka na sa ma fa, .mk kb nb sb mb fb =>
    if ka = 1 then
      (if kb = 1 then (if na = nb then .args 0 fa fb else if na < nb then .bind nb (.mk ka na sa ma fa) else .bind na (.mk kb nb sb mb fb))
       else if Reach L na (.mk kb nb sb mb fb) then .fail else .bind na (.mk kb nb sb mb fb))
    else if kb = 1 then (if Reach L nb (.mk ka na sa ma fa) then .fail else .bind nb (.mk ka na sa ma fa))
    else if ka ≠ kb ∨ (ka = 2 ∧ na ≠ nb) ∨ sa ≠ sb ∨ ma ≠ mb then .fail else .args ma fa fb
  | _, _ => .fail
inductive Res where
  | ok (L : Bs) (f : Nat)
  | many
  | unlike
def pairsOf (m : Nat) (g h : Nat → T) : List (T × T) := (List.range m).map fun i => (g i, h i)
/-- A stack of pairs, the first one on top; f: how many pairs may come up yet. -/
noncomputable def uniF : Nat → Bs → List (T × T) → Res
  | 0, L, [] => .ok L 0
  | 0, _, _ :: _ => .many
  | f + 1, L, [] => .ok L (f + 1)
  | f + 1, L, p :: rest => match stepU L (walkN L p.1) (walkN L p.2) with
    | .fail => .unlike
    | .bind n t => uniF f (L ++ [(n, t)]) rest
    | .args m g h => uniF f L (pairsOf m g h ++ rest)
theorem uniF_nil (f : Nat) (L : Bs) : uniF f L [] = .ok L f := by cases f <;> rfl
noncomputable def Res.then (r : Res) (xs : List (T × T)) : Res := match r with
  | .ok L f => uniF f L xs
  | .many => .many
  | .unlike => .unlike
theorem uniF_append : ∀ (f : Nat) (L : Bs) (xs ys : List (T × T)), uniF f L (xs ++ ys) = (uniF f L xs).then ys := by
  intro f
  induction f with
  | zero =>
    intro L xs ys
    cases xs with
    | nil => rfl
    | cons x xs => rfl
  | succ f ih =>
    intro L xs ys
    cases xs with
    | nil => rfl
    | cons x xs =>
      simp only [List.cons_append, uniF]
      cases stepU L (walkN L x.1) (walkN L x.2) with
      | fail => rfl
      | bind n t => exact ih _ _ _
      | args m g h => simp only [← List.append_assoc]; exact ih _ _ _
/-- Behind one pair. -/
theorem stepU_bind {L : Bs} {a b : T} (ha : a.ok) (hb : b.ok) (da : doneW L a) (db : doneW L b) {n : Int} {t : T} (he : stepU L a b = .bind n t) : findB L n = none ∧ 0 ≤ n ∧ n < 1000 ∧ t.ok ∧ ¬ Reach L n t := by
  cases a with
  | nil => cases he
  | mk ka na sa ma fa =>
  cases b with
  | nil => cases he
  | mk kb nb sb mb fb =>
  have other : ∀ {n k s m f}, (T.mk 1 k s m f).ok → doneW L (.mk 1 k s m f) → k ≠ n → ¬ Reach L n (.mk 1 k s m f) := by
    intro n k s m f _ hd hne hr
    cases hr with
    | var e => exact hne (var_iff.mp e).2
    | bind e hf hx => rw [hd _ e] at hf; cases hf
  unfold stepU at he
  simp only at he
  split at he
  · rename_i h1
    subst h1
    obtain ⟨a0, a1, _⟩ := ha.var rfl
    split at he
    · rename_i h1; subst h1
      obtain ⟨b0, b1, _⟩ := hb.var rfl
      split at he
      · cases he
      · rename_i hne
        split at he
        · rename_i hlt
          injection he with e1 e2; subst e1; subst e2
          exact ⟨db _ (var_iff.mpr ⟨rfl, rfl⟩), b0, b1, ha, other ha da hne⟩
        · injection he with e1 e2; subst e1; subst e2
          exact ⟨da _ (var_iff.mpr ⟨rfl, rfl⟩), a0, a1, hb, other hb db fun e => hne e.symm⟩
    · split at he
      · cases he
      · rename_i hr
        injection he with e1 e2; subst e1; subst e2
        exact ⟨da _ (var_iff.mpr ⟨rfl, rfl⟩), a0, a1, hb, hr⟩
  · split at he
    · rename_i h1; subst h1
      obtain ⟨b0, b1, _⟩ := hb.var rfl
      split at he
      · cases he
      · rename_i hr
        injection he with e1 e2; subst e1; subst e2
        exact ⟨db _ (var_iff.mpr ⟨rfl, rfl⟩), b0, b1, ha, hr⟩
    · split at he <;> cases he
theorem stepU_args {L : Bs} {a b : T} (ha : a.ok) (hb : b.ok) {m : Nat} {g h : Nat → T} (he : stepU L a b = .args m g h) : m < 1000 ∧ ∀ i, i < m → (g i).ok ∧ (h i).ok := by
  cases a with
  | nil => cases he
  | mk ka na sa ma fa =>
  cases b with
  | nil => cases he
  | mk kb nb sb mb fb =>
  unfold stepU at he
  simp only at he
  split at he
  · split at he
    · split at he
      · injection he with e1 e2 e3; subst e1; exact ⟨by omega, fun i hi => absurd hi (by omega)⟩
      · split at he <;> cases he
    · split at he <;> cases he
  · split at he
    · split at he <;> cases he
    · split at he
      · cases he
      · rename_i hc
        injection he with e1 e2 e3; subst e1; subst e2; subst e3
        have hm : ma = mb := Classical.byContradiction fun e => hc (.inr (.inr (.inr e)))
        subst hm
        exact ⟨ha.few, fun i hi => ⟨ha.arg hi, hb.arg hi⟩⟩
theorem pairsOf_ok {m : Nat} {g h : Nat → T} (hgh : ∀ i, i < m → (g i).ok ∧ (h i).ok) : ∀ p ∈ pairsOf m g h, p.1.ok ∧ p.2.ok := by
  intro p hp
  obtain ⟨i, hi, rfl⟩ := List.mem_map.mp hp
  exact hgh i (List.mem_range.mp hi)
/-- What a stack of pairs comes to: bindings behind those that there were. -/
theorem uniF_ok : ∀ (f : Nat) (L : Bs) (xs : List (T × T)), EnvOk L → (∀ p ∈ xs, p.1.ok ∧ p.2.ok) → ∀ L' f', uniF f L xs = .ok L' f' → EnvOk L' ∧ f' ≤ f ∧ ∃ M, L' = L ++ M ∧ M.length + f' ≤ f := by
  intro f
  induction f with
  | zero =>
    intro L xs hL _ L' f' he
    cases xs with
    | nil => injection he with e1 e2; subst e1; subst e2; exact ⟨hL, by omega, [], by simp, by simp⟩
    | cons x xs => cases he
  | succ f ih =>
    intro L xs hL hx L' f' he
    cases xs with
    | nil => injection he with e1 e2; subst e1; subst e2; exact ⟨hL, by omega, [], by simp, by simp⟩
    | cons x xs =>
      obtain ⟨h1, h2⟩ := hx x List.mem_cons_self
      have hr : ∀ p ∈ xs, p.1.ok ∧ p.2.ok := fun p hp => hx p (List.mem_cons_of_mem _ hp)
      simp only [uniF] at he
      cases hs : stepU L (walkN L x.1) (walkN L x.2) with
      | fail => rw [hs] at he; cases he
      | bind n t =>
        rw [hs] at he
        obtain ⟨b1, b2, b3, b4, b5⟩ := stepU_bind (hL.walk_ok h1) (hL.walk_ok h2) (hL.walk_done _) (hL.walk_done _) hs
        obtain ⟨c1, c2, M, rfl, c3⟩ := ih _ _ (hL.bind b1 b2 b3 b4 b5) hr _ _ he
        exact ⟨c1, by omega, (n, t) :: M, by simp, by simp; omega⟩
      | args m g h =>
        rw [hs] at he
        obtain ⟨b1, b2⟩ := stepU_args (hL.walk_ok h1) (hL.walk_ok h2) hs
        obtain ⟨c1, c2, M, rfl, c3⟩ := ih _ _ hL (fun p hp => by
          rcases List.mem_append.mp hp with hp | hp
          · exact pairsOf_ok b2 p hp
          · exact hr p hp) _ _ he
        exact ⟨c1, by omega, M, rfl, by omega⟩
end Go.Proofs.Ytgoedlbdnmhppaa
