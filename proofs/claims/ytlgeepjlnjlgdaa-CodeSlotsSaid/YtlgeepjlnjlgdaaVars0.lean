/- The variables of a term, each once, by where they come first: plain. -/
import Derived.Test.YtlgeepjlnjlgdaaBits
namespace Go.Proofs.Ytlgeepjlnjlgdaa
open Go.RowKit

def add1 (acc : List Int) (x : Int) : List Int := if x ∈ acc then acc else acc ++ [x]
def addAll (acc l : List Int) : List Int := l.foldl add1 acc
def foldN (n : Nat) (f : Nat → List Int) (acc : List Int) : List Int := match n with
  | 0 => acc
  | n + 1 => addAll (foldN n f acc) (f n)
def varsT : T → List Int
  | .nil => []
  | .mk k n _ m a => if k = 1 then [n] else if k = 4 then foldN m (fun i => varsT (a i)) [] else []
theorem varsT_cmp (n : Int) (s : ByteArray) (m : Nat) (a : Nat → T) : varsT (.mk 4 n s m a) = foldN m (fun i => varsT (a i)) [] := by
  rw [varsT]; rfl
theorem mem_add1 {acc : List Int} {x y : Int} : y ∈ add1 acc x ↔ y ∈ acc ∨ y = x := by
  unfold add1
  split
  · exact ⟨.inl, fun h => h.elim id fun e => e ▸ by assumption⟩
  · simp
theorem mem_addAll : ∀ {l acc : List Int} {y : Int}, y ∈ addAll acc l ↔ y ∈ acc ∨ y ∈ l
  | [], acc, y => by simp [addAll]
  | x :: l, acc, y => by
    show y ∈ addAll (add1 acc x) l ↔ _
    rw [mem_addAll, mem_add1]
    simp [or_assoc]
theorem add1_nodup {acc : List Int} {x : Int} (h : acc.Nodup) : (add1 acc x).Nodup := by
  unfold add1
  split
  · exact h
  · rename_i hx
    rw [List.nodup_append]
    exact ⟨h, by simp, fun a ha b hb => by simp at hb; subst hb; exact fun e => hx (e ▸ ha)⟩
theorem addAll_nodup : ∀ {l acc : List Int}, acc.Nodup → (addAll acc l).Nodup
  | [], _, h => h
  | _ :: l, _, h => addAll_nodup (l := l) (add1_nodup h)
theorem addAll_append (acc l k : List Int) : addAll acc (l ++ k) = addAll (addAll acc l) k := by simp [addAll]
theorem addAll_mem {acc : List Int} {x : Int} (h : x ∈ acc) : add1 acc x = acc := if_pos h
/-- Adding what was added to something. -/
theorem addAll_assoc (acc b l : List Int) : addAll acc (addAll b l) = addAll (addAll acc b) l := by
  induction l generalizing b with
  | nil => rfl
  | cons x l ih =>
    show addAll acc (addAll (add1 b x) l) = addAll (add1 (addAll acc b) x) l
    rw [ih]
    congr 1
    unfold add1
    by_cases hx : x ∈ b
    · rw [if_pos hx, if_pos (mem_addAll.mpr (.inr hx))]
    · rw [if_neg hx, addAll_append]; rfl
theorem addAll_fresh : ∀ {l acc : List Int}, l.Nodup → (∀ x ∈ l, x ∉ acc) → addAll acc l = acc ++ l
  | [], acc, _, _ => by simp [addAll]
  | x :: l, acc, h, hx => by
    show addAll (add1 acc x) l = _
    have h1 : add1 acc x = acc ++ [x] := if_neg (hx x List.mem_cons_self)
    rw [h1, addAll_fresh (List.nodup_cons.mp h).2 fun y hy => by
      simp only [List.mem_append, List.mem_singleton]
      rintro (h2 | rfl)
      · exact hx y (List.mem_cons_of_mem _ hy) h2
      · exact (List.nodup_cons.mp h).1 hy]
    simp
theorem addAll_nil {l : List Int} (h : l.Nodup) : addAll [] l = l := by simpa using addAll_fresh (acc := []) h fun _ _ h => by cases h
theorem foldN_nodup {n : Nat} {f : Nat → List Int} : ∀ {acc : List Int}, acc.Nodup → (foldN n f acc).Nodup := by
  induction n with
  | zero => exact fun h => h
  | succ n ih => exact fun h => addAll_nodup (ih h)
theorem mem_foldN {n : Nat} {f : Nat → List Int} {acc : List Int} {y : Int} : y ∈ foldN n f acc ↔ y ∈ acc ∨ ∃ i, i < n ∧ y ∈ f i := by
  induction n with
  | zero => simp [foldN]
  | succ n ih =>
    simp only [foldN, mem_addAll, ih]
    constructor
    · rintro ((h | ⟨i, hi, h⟩) | h)
      · exact .inl h
      · exact .inr ⟨i, by omega, h⟩
      · exact .inr ⟨n, by omega, h⟩
    · rintro (h | ⟨i, hi, h⟩)
      · exact .inl (.inl h)
      · rcases Nat.lt_or_ge i n with h1 | h1
        · exact .inl (.inr ⟨i, h1, h⟩)
        · obtain rfl : i = n := by omega
          exact .inr h
theorem foldN_acc {n : Nat} {f : Nat → List Int} (acc : List Int) : addAll acc (foldN n f []) = foldN n f acc := by
  induction n with
  | zero => rfl
  | succ n ih => simp only [foldN]; rw [addAll_assoc, ih]
theorem varsT_nodup : ∀ {t : T}, (varsT t).Nodup
  | .nil => List.Pairwise.nil
  | .mk k n _ m a => by
    unfold varsT
    split
    · simp
    · split
      · exact foldN_nodup List.Pairwise.nil
      · exact List.Pairwise.nil
theorem varsT_has : ∀ {t : T} {v : Int}, v ∈ varsT t → t.hasV v := by
  intro t
  induction t with
  | nil => exact fun h => by cases h
  | mk k n s m a ih =>
    intro v h
    unfold varsT at h
    split at h
    · rename_i hk
      simp at h
      exact .inl ⟨hk, h.symm⟩
    · split at h
      · rename_i hk
        rcases mem_foldN.mp h with h | ⟨i, hi, h⟩
        · cases h
        · exact .inr ⟨hk, i, hi, ih i h⟩
      · cases h
theorem T.ok.has_rng : ∀ {t : T}, t.ok → ∀ {v : Int}, t.hasV v → 0 ≤ v ∧ v < 1000 := by
  intro t
  induction t with
  | nil => exact fun h => h.1.elim
  | mk k n s m a ih =>
    rintro h v (⟨hk, hv⟩ | ⟨_, i, hi, hv⟩)
    · have := h.var hk
      omega
    · exact ih i (h.arg hi) hv
theorem varsT_few {t : T} (h : t.ok) : (varsT t).length ≤ 1000 := nodup_few 1000 _ varsT_nodup fun _ hv => h.has_rng (varsT_has hv)
theorem foldN_few {m : Nat} {k n : Int} {s : ByteArray} {a : Nat → T} (h : (T.mk k n s m a).ok) {i : Nat} (hi : i ≤ m) (l : List Int) (hl : ∀ x ∈ l, 0 ≤ x ∧ x < 1000) : (addAll (foldN i (fun i => varsT (a i)) []) l).length ≤ 1000 :=
  nodup_few 1000 _ (addAll_nodup (foldN_nodup List.Pairwise.nil)) fun v hv => by
    rcases mem_addAll.mp hv with hv | hv
    · rcases mem_foldN.mp hv with hv | ⟨j, hj, hv⟩
      · cases hv
      · exact (h.arg (by omega)).has_rng (varsT_has hv)
    · exact hl v hv
end Go.Proofs.Ytlgeepjlnjlgdaa
