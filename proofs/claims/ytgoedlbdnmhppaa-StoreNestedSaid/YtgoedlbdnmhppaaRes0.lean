/- What a term stands for, wholly: resolved terms, as plain terms. -/
import Derived.Test.YtgoedlbdnmhppaaMa
namespace Go.Proofs.Ytgoedlbdnmhppaa
open Go.RowKit

/-- A term, resolved, down to a depth. -/
def resF (L : Bs) : Nat → T → T
  | 0, _ => .nil
  | f + 1, t => match walkN L t with
    | .nil => .nil
    | .mk k n s m a => if k = 4 then .mk 4 0 s m (fun i => resF L f (a i)) else .mk k n s m a
/-- It is resolved wholly at that depth. -/
def Deep (L : Bs) : Nat → T → Prop
  | 0, _ => False
  | f + 1, t => match walkN L t with
    | .nil => False
    | .mk k _ _ m a => k = 4 → ∀ i, i < m → Deep L f (a i)
theorem resF_leaf {L : Bs} {t : T} {k n : Int} {s : ByteArray} {m : Nat} {a : Nat → T} (h : walkN L t = .mk k n s m a) (hk : k ≠ 4) (f : Nat) : resF L (f + 1) t = .mk k n s m a := by
  simp only [resF, h, if_neg hk]
theorem resF_cmp {L : Bs} {t : T} {n : Int} {s : ByteArray} {m : Nat} {a : Nat → T} (h : walkN L t = .mk 4 n s m a) (f : Nat) : resF L (f + 1) t = .mk 4 0 s m (fun i => resF L f (a i)) := by
  simp only [resF, h, if_true]
theorem Deep.args {L : Bs} {f : Nat} {t : T} (hd : Deep L (f + 1) t) {n : Int} {s : ByteArray} {m : Nat} {a : Nat → T} (h : walkN L t = .mk 4 n s m a) : ∀ i, i < m → Deep L f (a i) := by
  unfold Deep at hd; rw [h] at hd; exact hd rfl
theorem Deep.more {L : Bs} : ∀ {f : Nat} {t : T}, Deep L f t → ∀ {g : Nat}, f ≤ g → Deep L g t := by
  intro f
  induction f with
  | zero => exact fun h => h.elim
  | succ f ih =>
    intro t h g hg
    obtain ⟨g, rfl⟩ : ∃ g', g = g' + 1 := ⟨g - 1, by omega⟩
    unfold Deep at h ⊢
    split at h
    · exact h.elim
    · rename_i k n s m a e
      exact fun hk i hi => ih (h hk i hi) (by omega)
/-- Each term has such a depth. -/
theorem EnvOk.deep {L : Bs} (h : EnvOk L) {t : T} (ht : t.ok) : ∃ f, Deep L f t := by
  obtain ⟨r, hr⟩ := h.acyc
  have main : ∀ (K : Nat) (t : T), t.ok → (∀ v, t.hasV v → r v < K) → ∃ f, Deep L f t := by
    intro K
    induction K with
    | zero =>
      intro t
      induction t with
      | nil => exact fun ht => ht.1.elim
      | mk k n s m a ih =>
        intro ht hv
        by_cases hk : k = 1
        · exact absurd (hv n (.inl ⟨hk, rfl⟩)) (by omega)
        · have hw : walkN L (.mk k n s m a) = .mk k n s m a := (walkF_more (i := 0) (L := L) (t := .mk k n s m a) (fun n' hn' => absurd (var_iff.mp hn').1 hk) _ (Nat.zero_le _))
          have key : ∀ q, q ≤ m → k = 4 → ∃ f, ∀ i, i < q → Deep L f (a i) := by
            intro q
            induction q with
            | zero => exact fun _ _ => ⟨0, fun i hi => absurd hi (by omega)⟩
            | succ q ihq =>
              intro hq hk4
              obtain ⟨f1, h1⟩ := ihq (by omega) hk4
              obtain ⟨f2, h2⟩ := ih q (ht.arg (by omega)) fun v hv1 => hv v (.inr ⟨hk4, q, by omega, hv1⟩)
              refine ⟨max f1 f2, fun i hi => ?_⟩
              rcases Nat.lt_or_ge i q with h | h
              · exact (h1 i h).more (by omega)
              · obtain rfl : i = q := by omega
                exact h2.more (by omega)
          by_cases hk4 : k = 4
          · obtain ⟨f, hf⟩ := key m (Nat.le_refl _) hk4
            exact ⟨f + 1, by unfold Deep; rw [hw]; exact fun _ => hf⟩
          · exact ⟨1, by unfold Deep; rw [hw]; exact fun h => absurd h hk4⟩
    | succ K ihK =>
      intro t
      induction t with
      | nil => exact fun ht => ht.1.elim
      | mk k n s m a ih =>
        intro ht hv
        by_cases hk : k = 1
        · cases hf : findB L n with
          | none =>
            have hw : walkN L (.mk k n s m a) = .mk k n s m a := (walkF_more (i := 0) (L := L) (t := .mk k n s m a) (fun n' hn' => by rw [← (var_iff.mp hn').2]; exact hf) _ (Nat.zero_le _))
            exact ⟨1, by unfold Deep; rw [hw]; exact fun h => by rw [hk] at h; exact absurd h (by decide)⟩
          | some x =>
            obtain ⟨f, hd⟩ := ihK x (h.find hf).2.2 fun v hv1 => by
              have h1 := hr _ (findB_mem hf) v hv1
              have h2 := hv n (.inl ⟨hk, rfl⟩)
              simp only at h1
              omega
            have hw : walkN L (.mk k n s m a) = walkN L x := by
              have e1 : walkN L (.mk k n s m a) = walkF L (L.length + 1) (.mk k n s m a) := walkN_eq h (h.not_done (by omega))
              rw [e1, walkF_comm]
              have e2 : stepW L (.mk k n s m a) = x := by unfold stepW; rw [var_iff.mpr ⟨hk, rfl⟩]; simp only [hf]
              rw [e2]; rfl
            cases f with
            | zero => exact hd.elim
            | succ f => exact ⟨f + 1, by unfold Deep at hd ⊢; rw [hw]; exact hd⟩
        · have hw : walkN L (.mk k n s m a) = .mk k n s m a := (walkF_more (i := 0) (L := L) (t := .mk k n s m a) (fun n' hn' => absurd (var_iff.mp hn').1 hk) _ (Nat.zero_le _))
          have key : ∀ q, q ≤ m → k = 4 → ∃ f, ∀ i, i < q → Deep L f (a i) := by
            intro q
            induction q with
            | zero => exact fun _ _ => ⟨0, fun i hi => absurd hi (by omega)⟩
            | succ q ihq =>
              intro hq hk4
              obtain ⟨f1, h1⟩ := ihq (by omega) hk4
              obtain ⟨f2, h2⟩ := ih q (ht.arg (by omega)) fun v hv1 => hv v (.inr ⟨hk4, q, by omega, hv1⟩)
              refine ⟨max f1 f2, fun i hi => ?_⟩
              rcases Nat.lt_or_ge i q with h | h
              · exact (h1 i h).more (by omega)
              · obtain rfl : i = q := by omega
                exact h2.more (by omega)
          by_cases hk4 : k = 4
          · obtain ⟨f, hf⟩ := key m (Nat.le_refl _) hk4
            exact ⟨f + 1, by unfold Deep; rw [hw]; exact fun _ => hf⟩
          · exact ⟨1, by unfold Deep; rw [hw]; exact fun h => absurd h hk4⟩
  obtain ⟨K, hK⟩ := rank_bound r t
  exact main K t ht hK
/-- No part has more arguments than a text's term may have. -/
def T.thin : T → Prop
  | .nil => False
  | .mk _ _ _ m a => m ≤ 1000 ∧ ∀ i, i < m → (a i).thin
theorem T.ok.thin : ∀ {t : T}, t.ok → t.thin
  | .nil, h => h.1.elim
  | .mk _ _ _ _ _, h => ⟨Nat.le_of_lt h.few, fun _ hi => (h.arg hi).thin⟩
theorem EnvOk.resF_thin {L : Bs} (h : EnvOk L) : ∀ (f : Nat) (t : T), t.ok → Deep L f t → (resF L f t).thin := by
  intro f
  induction f with
  | zero => exact fun t _ hd => hd.elim
  | succ f ih =>
    intro t ht hd
    have hok := h.walk_ok ht
    unfold Deep at hd
    unfold resF
    cases hw : walkN L t with
    | nil => rw [hw] at hd; exact hd.elim
    | mk k n s m a =>
      rw [hw] at hd hok
      simp only at hd ⊢
      split
      · rename_i hk
        exact ⟨Nat.le_of_lt hok.few, fun i hi => ih _ (hok.arg hi) (hd hk i hi)⟩
      · exact hok.thin
end Go.Proofs.Ytgoedlbdnmhppaa
