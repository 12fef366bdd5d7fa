/- What a condition comes to, and what it waits for: plain. -/
import Derived.Test.YtjjkigphfijnbaaDif0
import Derived.Test.YtjjkigphfijnbaaVars0
namespace Go.Proofs.Ytjjkigphfijnbaa
open Go.RowKit

def nNonvar : List UInt8 := [110, 111, 110, 118, 97, 114]
def nGround : List UInt8 := [103, 114, 111, 117, 110, 100]
noncomputable def whenT : T → Int × List Int
  | .nil => (-3, [])
  | .mk k _ s m a =>
    if k = 1 then (-2, [])
    else if m = 1 ∧ s.toList = nNonvar then (match (a 0).var? with | some x => (0, [x]) | none => (1, []))
    else if m = 1 ∧ s.toList = nGround then (match varsT (a 0) with | [] => (1, []) | x :: _ => (0, [x]))
    else if m = 2 ∧ s.toList = [63, 61] then (if difN (uniF 2000 [] [(a 0, a 1)]) = -1 then (1, []) else (difN (uniF 2000 [] [(a 0, a 1)]), difL (uniF 2000 [] [(a 0, a 1)])))
    else if m = 2 ∧ s.toList = [44] then (if (whenT (a 0)).1 = 1 then whenT (a 1) else whenT (a 0))
    else if m = 2 ∧ s.toList = [59] then
      (if (whenT (a 0)).1 = 1 ∨ (whenT (a 1)).1 = 1 then (1, []) else if (whenT (a 0)).1 < 0 then ((whenT (a 0)).1, []) else if (whenT (a 1)).1 < 0 then ((whenT (a 1)).1, []) else (0, addAll (whenT (a 0)).2 (whenT (a 1)).2))
    else (-3, [])
theorem difL_own {a b : T} (ha : a.ok) (hb : b.ok) : (difL (uniF 2000 [] [(a, b)])).Nodup ∧ ∀ x ∈ difL (uniF 2000 [] [(a, b)]), 0 ≤ x ∧ x < 1000 := by
  cases hr : uniF 2000 [] [(a, b)] with
  | unlike => exact ⟨List.Pairwise.nil, fun x h => by cases h⟩
  | many => exact ⟨List.Pairwise.nil, fun x h => by cases h⟩
  | ok L f =>
    cases L with
    | nil => exact ⟨List.Pairwise.nil, fun x h => by cases h⟩
    | cons p M =>
      obtain ⟨hE, _, _⟩ := uniF_ok 2000 [] [(a, b)] EnvOk.nil (fun q hq => by simp at hq; subst hq; exact ⟨ha, hb⟩) _ _ hr
      obtain ⟨r, hrk⟩ := hE.acyc
      obtain ⟨p0, p1, p2⟩ := hE.ok p List.mem_cons_self
      simp only [difL]
      cases hv : p.2.var? with
      | none => simp only [varL, hv]; exact ⟨by simp, fun x hx => by simp at hx; subst hx; exact ⟨p0, p1⟩⟩
      | some k =>
        simp only [varL, hv]
        have h1 := hrk p List.mem_cons_self k (var_has hv)
        have h2 := p2.has_rng (var_has hv)
        refine ⟨?_, fun x hx => ?_⟩
        · rw [List.nodup_cons]
          exact ⟨fun h => by simp at h; rw [h] at h1; omega, by simp⟩
        · simp at hx
          rcases hx with rfl | rfl
          · exact ⟨p0, p1⟩
          · exact h2
theorem whenT_own : ∀ {t : T}, t.ok → (whenT t).2.Nodup ∧ ∀ x ∈ (whenT t).2, 0 ≤ x ∧ x < 1000 := by
  intro t
  induction t with
  | nil => exact fun h => h.1.elim
  | mk k n s m a ih =>
    intro h
    have nil : (([] : List Int).Nodup ∧ ∀ x ∈ ([] : List Int), 0 ≤ x ∧ x < 1000) := ⟨List.Pairwise.nil, fun x h => by cases h⟩
    unfold whenT
    split
    · exact nil
    · split
      · rename_i h1
        split
        · rename_i x hx
          exact ⟨by simp, fun y hy => by simp at hy; subst hy; exact (h.arg (i := 0) (by omega)).has_rng (var_has hx)⟩
        · exact nil
      · split
        · rename_i h1
          split
          · exact nil
          · rename_i x l hx
            exact ⟨by simp, fun y hy => by simp at hy; subst hy; exact (h.arg (i := 0) (by omega)).has_rng (varsT_has (hx ▸ List.mem_cons_self))⟩
        · split
          · rename_i h1
            split
            · exact nil
            · exact difL_own (h.arg (by omega)) (h.arg (by omega))
          · split
            · rename_i h1
              split
              · exact ih 1 (h.arg (by omega))
              · exact ih 0 (h.arg (by omega))
            · split
              · rename_i h1
                obtain ⟨a1, a2⟩ := ih 0 (h.arg (by omega))
                obtain ⟨b1, b2⟩ := ih 1 (h.arg (by omega))
                split
                · exact nil
                · split
                  · exact nil
                  · split
                    · exact nil
                    · exact ⟨addAll_nodup a1, fun x hx => (mem_addAll.mp hx).elim (a2 x) (b2 x)⟩
              · exact nil
theorem whenT_few {t : T} (h : t.ok) : (whenT t).2.length ≤ 1000 := nodup_few 1000 _ (whenT_own h).1 (whenT_own h).2
/-! By kinds. -/
section
variable {k n : Int} {s : ByteArray} {m : Nat} {a : Nat → T}
theorem when_var : whenT (.mk 1 n s m a) = (-2, []) := by rw [whenT, if_pos rfl]
theorem when_nonvar (h1 : k ≠ 1) (hs : s.toList = nNonvar) : whenT (.mk k n s 1 a) = match (a 0).var? with | some x => (0, [x]) | none => (1, []) := by rw [whenT, if_neg h1, if_pos ⟨rfl, hs⟩]
theorem when_ground (h1 : k ≠ 1) (hs : s.toList = nGround) : whenT (.mk k n s 1 a) = match varsT (a 0) with | [] => (1, []) | x :: _ => (0, [x]) := by
  rw [whenT, if_neg h1, if_neg (fun h => by have := h.2; rw [hs] at this; exact absurd this (by decide)), if_pos ⟨rfl, hs⟩]
theorem when_dif (h1 : k ≠ 1) (hs : s.toList = [63, 61]) : whenT (.mk k n s 2 a) = if difN (uniF 2000 [] [(a 0, a 1)]) = -1 then (1, []) else (difN (uniF 2000 [] [(a 0, a 1)]), difL (uniF 2000 [] [(a 0, a 1)])) := by
  rw [whenT, if_neg h1, if_neg (fun h => absurd h.1 (by decide)), if_neg (fun h => absurd h.1 (by decide)), if_pos ⟨rfl, hs⟩]
theorem when_and (h1 : k ≠ 1) (hs : s.toList = [44]) : whenT (.mk k n s 2 a) = if (whenT (a 0)).1 = 1 then whenT (a 1) else whenT (a 0) := by
  rw [whenT, if_neg h1, if_neg (fun h => absurd h.1 (by decide)), if_neg (fun h => absurd h.1 (by decide)), if_neg (fun h => by have := h.2; rw [hs] at this; exact absurd this (by decide)), if_pos ⟨rfl, hs⟩]
theorem when_or (h1 : k ≠ 1) (hs : s.toList = [59]) : whenT (.mk k n s 2 a) = if (whenT (a 0)).1 = 1 ∨ (whenT (a 1)).1 = 1 then (1, []) else if (whenT (a 0)).1 < 0 then ((whenT (a 0)).1, []) else if (whenT (a 1)).1 < 0 then ((whenT (a 1)).1, []) else (0, addAll (whenT (a 0)).2 (whenT (a 1)).2) := by
  rw [whenT, if_neg h1, if_neg (fun h => absurd h.1 (by decide)), if_neg (fun h => absurd h.1 (by decide)), if_neg (fun h => by have := h.2; rw [hs] at this; exact absurd this (by decide)), if_neg (fun h => by have := h.2; rw [hs] at this; exact absurd this (by decide)), if_pos ⟨rfl, hs⟩]
theorem when_none (h1 : k ≠ 1) (a1 : ¬ (m = 1 ∧ s.toList = nNonvar)) (a2 : ¬ (m = 1 ∧ s.toList = nGround)) (a3 : ¬ (m = 2 ∧ s.toList = [63, 61])) (a4 : ¬ (m = 2 ∧ s.toList = [44])) (a5 : ¬ (m = 2 ∧ s.toList = [59])) : whenT (.mk k n s m a) = (-3, []) := by
  rw [whenT, if_neg h1, if_neg a1, if_neg a2, if_neg a3, if_neg a4, if_neg a5]
end
end Go.Proofs.Ytjjkigphfijnbaa
