/- What two terms wait for: the plain law of layer 18 over unification. -/
import Derived.Test.YtjjkigphfijnbaaFails0
import Derived.Test.YtjjkigphfijnbaaCmp0
namespace Go.Proofs.Ytjjkigphfijnbaa
open Go.RowKit

def varL (t : T) : List Int := match t.var? with
  | some k => [k]
  | none => []
def difN : Res → Int
  | .unlike => 1
  | .many => -4
  | .ok [] _ => -1
  | .ok (_ :: _) _ => 0
def difL : Res → List Int
  | .ok (p :: _) _ => p.1 :: varL p.2
  | .ok [] _ => []
  | .unlike => []
  | .many => []
def firstL (n : Nat) (f : Nat → List Int) : List Int := match n with
  | 0 => []
  | n + 1 => match firstL n f with
    | [] => f n
    | x :: l => x :: l
/-- The first pair that binds, and its variables. -/
def waitsT : T → T → List Int
  | .mk ka na _ ma fa, .mk kb nb _ _ fb =>
    if ka = 1 then (if kb = 1 then (if na = nb then [] else [max na nb, min na nb]) else [na])
    else if kb = 1 then [nb] else firstL ma fun i => waitsT (fa i) (fb i)
  | _, _ => []
/-- It may be looked for: as many arguments on both sides, as far as one looks. -/
def wsafe : T → T → Prop
  | .mk ka _ _ ma fa, .mk kb _ _ mb fb => ka = 1 ∨ kb = 1 ∨ (ma ≤ mb ∧ ∀ i, i < ma → firstL i (fun i => waitsT (fa i) (fb i)) = [] → wsafe (fa i) (fb i))
  | _, _ => False
theorem firstL_nil {n : Nat} {f : Nat → List Int} (h : firstL n f = []) : ∀ i, i < n → f i = [] := by
  induction n with
  | zero => exact fun i hi => absurd hi (by omega)
  | succ n ih =>
    intro i hi
    unfold firstL at h
    split at h
    · rename_i h0
      rcases Nat.lt_or_ge i n with h1 | h1
      · exact ih h0 i h1
      · obtain rfl : i = n := by omega
        exact h
    · cases h
theorem firstL_at {n i : Nat} {f : Nat → List Int} (h : firstL i f = []) (hi : i < n) (hx : f i ≠ []) : firstL n f = f i := by
  induction n with
  | zero => omega
  | succ n ih =>
    unfold firstL
    rcases Nat.lt_or_ge i n with h1 | h1
    · rw [ih h1]
      cases hf : f i with
      | nil => exact absurd hf hx
      | cons x l => rfl
    · obtain rfl : i = n := by omega
      rw [h]
theorem uniF_pre : ∀ (f : Nat) (L : Bs) (xs : List (T × T)) (L1 : Bs) (f1 : Nat), uniF f L xs = .ok L1 f1 → ∃ M, L1 = L ++ M := by
  intro f
  induction f with
  | zero =>
    intro L xs L1 f1 h
    cases xs with
    | nil => injection h with h _; exact ⟨[], by simp [h]⟩
    | cons x xs => cases h
  | succ f ih =>
    intro L xs L1 f1 h
    cases xs with
    | nil => injection h with h _; exact ⟨[], by simp [h]⟩
    | cons x xs =>
      simp only [uniF] at h
      split at h
      · cases h
      · rename_i n t _
        obtain ⟨M, rfl⟩ := ih _ _ _ _ h
        exact ⟨(n, t) :: M, by simp⟩
      · exact ih _ _ _ _ h
/-- What the first pair of a stack comes to, as long as nothing is bound. -/
def FirstP (a : T) : Prop := ∀ (b : T) (f : Nat) (rest : List (T × T)) (L1 : Bs) (f1 : Nat), uniF f [] ((a, b) :: rest) = .ok L1 f1 →
  wsafe a b ∧ (waitsT a b = [] → ∃ f2, uniF f2 [] rest = .ok L1 f1) ∧ ∀ n l, waitsT a b = n :: l → ∃ t M, L1 = (n, t) :: M ∧ l = varL t
theorem drop_pairs {m i : Nat} (g h : Nat → T) (hi : i < m) : (pairsOf m g h).drop i = (g i, h i) :: (pairsOf m g h).drop (i + 1) := by
  have hl : i < (pairsOf m g h).length := by simp [pairsOf, hi]
  rw [List.drop_eq_getElem_cons hl]
  simp [pairsOf]
theorem first_args {m : Nat} {g h : Nat → T} (ih : ∀ i, i < m → FirstP (g i)) : ∀ (q i : Nat), i + q = m → firstL i (fun i => waitsT (g i) (h i)) = [] → ∀ (f : Nat) (rest : List (T × T)) (L1 : Bs) (f1 : Nat), uniF f [] ((pairsOf m g h).drop i ++ rest) = .ok L1 f1 →
    (∀ j, i ≤ j → j < m → firstL j (fun i => waitsT (g i) (h i)) = [] → wsafe (g j) (h j)) ∧ (firstL m (fun i => waitsT (g i) (h i)) = [] → ∃ f2, uniF f2 [] rest = .ok L1 f1) ∧ ∀ n l, firstL m (fun i => waitsT (g i) (h i)) = n :: l → ∃ t M, L1 = (n, t) :: M ∧ l = varL t := by
  intro q
  induction q with
  | zero =>
    intro i hq hf f rest L1 f1 he
    obtain rfl : i = m := by omega
    rw [List.drop_of_length_le (by simp [pairsOf])] at he
    exact ⟨fun j h1 h2 => by omega, fun _ => ⟨f, he⟩, fun n l h => by rw [hf] at h; cases h⟩
  | succ q ihq =>
    intro i hq hf f rest L1 f1 he
    have him : i < m := by omega
    rw [drop_pairs g h him, List.cons_append] at he
    obtain ⟨s1, s2, s3⟩ := ih i him _ _ _ _ _ he
    by_cases hw : waitsT (g i) (h i) = []
    · obtain ⟨f2, he2⟩ := s2 hw
      have hf2 : firstL (i + 1) (fun i => waitsT (g i) (h i)) = [] := by unfold firstL; rw [hf]; exact hw
      obtain ⟨t1, t2, t3⟩ := ihq (i + 1) (by omega) hf2 f2 rest L1 f1 he2
      refine ⟨fun j h1 h2 h3 => ?_, t2, t3⟩
      by_cases hj : j = i
      · subst hj; exact s1
      · exact t1 j (by omega) h2 h3
    · have hfm := firstL_at hf him hw
      refine ⟨fun j h1 h2 h3 => ?_, fun h => absurd (hfm ▸ h) hw, fun n l h => s3 n l (by rw [← h, hfm])⟩
      by_cases hj : j = i
      · subst hj; exact s1
      · exact absurd (firstL_nil h3 i (by omega)) hw
theorem first_all : ∀ a : T, FirstP a := by
  intro a
  induction a with
  | nil =>
    intro b f rest L1 f1 he
    cases f with
    | zero => cases he
    | succ f => simp only [uniF, walkN_nil, stepU] at he; cases he
  | mk ka na sa ma fa ih =>
    intro b f rest L1 f1 he
    cases f with
    | zero => cases he
    | succ f =>
      simp only [uniF, walkN_nil] at he
      cases b with
      | nil => simp only [stepU] at he; cases he
      | mk kb nb sb mb fb =>
        simp only [stepU] at he
        by_cases h1 : ka = 1
        · by_cases h2 : kb = 1
          · rw [if_pos h1, if_pos h2] at he
            by_cases h3 : na = nb
            · rw [if_pos h3] at he
              have hw : waitsT (.mk ka na sa ma fa) (.mk kb nb sb mb fb) = [] := by simp [waitsT, h1, h2, h3]
              exact ⟨.inl h1, fun _ => ⟨f, by simpa [pairsOf] using he⟩, fun n l h => by rw [hw] at h; cases h⟩
            · rw [if_neg h3] at he
              have hw : waitsT (.mk ka na sa ma fa) (.mk kb nb sb mb fb) = [max na nb, min na nb] := by simp [waitsT, h1, h2, h3]
              refine ⟨.inl h1, fun h => by rw [hw] at h; (cases h), fun n l h => ?_⟩
              by_cases h4 : na < nb
              · rw [if_pos h4] at he
                obtain ⟨M, rfl⟩ := uniF_pre _ _ _ _ _ he
                rw [hw, show max na nb = nb by omega, show min na nb = na by omega] at h
                injection h with e1 e2
                subst e1; subst e2
                exact ⟨.mk ka na sa ma fa, M, by simp, by simp [varL, T.var?, h1]⟩
              · rw [if_neg h4] at he
                obtain ⟨M, rfl⟩ := uniF_pre _ _ _ _ _ he
                rw [hw, show max na nb = na by omega, show min na nb = nb by omega] at h
                injection h with e1 e2
                subst e1; subst e2
                exact ⟨.mk kb nb sb mb fb, M, by simp, by simp [varL, T.var?, h2]⟩
          · rw [if_pos h1, if_neg h2] at he
            have hw : waitsT (.mk ka na sa ma fa) (.mk kb nb sb mb fb) = [na] := by simp [waitsT, h1, h2]
            by_cases h3 : Reach [] na (.mk kb nb sb mb fb)
            · rw [if_pos h3] at he; cases he
            · rw [if_neg h3] at he
              obtain ⟨M, rfl⟩ := uniF_pre _ _ _ _ _ he
              refine ⟨.inl h1, fun h => by rw [hw] at h; (cases h), fun n l h => ?_⟩
              rw [hw] at h
              injection h with e1 e2
              subst e1; subst e2
              exact ⟨.mk kb nb sb mb fb, M, by simp, by simp [varL, T.var?, h2]⟩
        · by_cases h2 : kb = 1
          · rw [if_neg h1, if_pos h2] at he
            have hw : waitsT (.mk ka na sa ma fa) (.mk kb nb sb mb fb) = [nb] := by simp [waitsT, h1, h2]
            by_cases h3 : Reach [] nb (.mk ka na sa ma fa)
            · rw [if_pos h3] at he; cases he
            · rw [if_neg h3] at he
              obtain ⟨M, rfl⟩ := uniF_pre _ _ _ _ _ he
              refine ⟨.inr (.inl h2), fun h => by rw [hw] at h; (cases h), fun n l h => ?_⟩
              rw [hw] at h
              injection h with e1 e2
              subst e1; subst e2
              exact ⟨.mk ka na sa ma fa, M, by simp, by simp [varL, T.var?, h1]⟩
          · rw [if_neg h1, if_neg h2] at he
            have hw : waitsT (.mk ka na sa ma fa) (.mk kb nb sb mb fb) = firstL ma fun i => waitsT (fa i) (fb i) := by simp [waitsT, h1, h2]
            by_cases h3 : ka ≠ kb ∨ ka = 2 ∧ na ≠ nb ∨ sa ≠ sb ∨ ma ≠ mb
            · rw [if_pos h3] at he; cases he
            · rw [if_neg h3] at he
              have hm : ma = mb := Classical.byContradiction fun e => h3 (.inr (.inr (.inr e)))
              obtain ⟨s1, s2, s3⟩ := first_args (m := ma) (g := fa) (h := fb) (fun i _ => ih i) ma 0 (by omega) rfl f rest L1 f1 (by simpa using he)
              rw [hw]
              exact ⟨.inr (.inr ⟨by omega, fun i hi hf => s1 i (by omega) hi hf⟩), s2, s3⟩
/-- Both together: what the program waits for is what the reference says. -/
theorem waits_dif {a b : T} {p : Int × T} {M : Bs} {f f1 : Nat} (h : uniF f [] [(a, b)] = .ok (p :: M) f1) : wsafe a b ∧ waitsT a b = difL (.ok (p :: M) f1) := by
  obtain ⟨h1, h2, h3⟩ := first_all a b _ _ _ _ h
  refine ⟨h1, ?_⟩
  cases hw : waitsT a b with
  | nil =>
    obtain ⟨f2, h4⟩ := h2 hw
    rw [uniF_nil] at h4
    injection h4 with h4
    cases h4
  | cons n l =>
    obtain ⟨t, M', e1, e2⟩ := h3 n l hw
    injection e1 with e1 e3
    subst e1; subst e2
    rfl
/-! The other way round it is the same. -/
def swapP (p : T × T) : T × T := (p.2, p.1)
theorem stepU_swap {L : Bs} {a b : T} : (stepU L a b = .fail ∧ stepU L b a = .fail) ∨ (∃ n t, stepU L a b = .bind n t ∧ stepU L b a = .bind n t) ∨ ∃ m g h, stepU L a b = .args m g h ∧ stepU L b a = .args m h g := by
  cases a with
  | nil => cases b <;> exact .inl ⟨rfl, rfl⟩
  | mk ka na sa ma fa =>
  cases b with
  | nil => exact .inl ⟨rfl, rfl⟩
  | mk kb nb sb mb fb =>
  simp only [stepU]
  by_cases h1 : ka = 1
  · by_cases h2 : kb = 1
    · simp only [if_pos h1, if_pos h2]
      by_cases h3 : na = nb
      · rw [if_pos h3, if_pos h3.symm]
        exact .inr (.inr ⟨0, _, _, rfl, rfl⟩)
      · rw [if_neg h3, if_neg (fun e : nb = na => h3 e.symm)]
        by_cases h4 : na < nb
        · rw [if_pos h4, if_neg (by omega)]; exact .inr (.inl ⟨_, _, rfl, rfl⟩)
        · rw [if_neg h4, if_pos (by omega)]; exact .inr (.inl ⟨_, _, rfl, rfl⟩)
    · simp only [if_pos h1, if_neg h2]
      by_cases h3 : Reach L na (.mk kb nb sb mb fb)
      · exact .inl ⟨by rw [if_pos h3], by rw [if_pos h3]⟩
      · exact .inr (.inl ⟨na, .mk kb nb sb mb fb, by rw [if_neg h3], by rw [if_neg h3]⟩)
  · by_cases h2 : kb = 1
    · simp only [if_neg h1, if_pos h2]
      by_cases h3 : Reach L nb (.mk ka na sa ma fa)
      · exact .inl ⟨by rw [if_pos h3], by rw [if_pos h3]⟩
      · exact .inr (.inl ⟨nb, .mk ka na sa ma fa, by rw [if_neg h3], by rw [if_neg h3]⟩)
    · simp only [if_neg h1, if_neg h2]
      by_cases h3 : ka ≠ kb ∨ ka = 2 ∧ na ≠ nb ∨ sa ≠ sb ∨ ma ≠ mb
      · have h4 : kb ≠ ka ∨ kb = 2 ∧ nb ≠ na ∨ sb ≠ sa ∨ mb ≠ ma := by
          rcases h3 with h | ⟨h, h'⟩ | h | h
          · exact .inl fun e => h e.symm
          · by_cases e : ka = kb
            · exact .inr (.inl ⟨by omega, fun e => h' e.symm⟩)
            · exact .inl fun e' => e e'.symm
          · exact .inr (.inr (.inl fun e => h e.symm))
          · exact .inr (.inr (.inr fun e => h e.symm))
        rw [if_pos h3, if_pos h4]; exact .inl ⟨rfl, rfl⟩
      · have h4 : ¬ (kb ≠ ka ∨ kb = 2 ∧ nb ≠ na ∨ sb ≠ sa ∨ mb ≠ ma) := fun h => h3 (by
          rcases h with h | ⟨h, h'⟩ | h | h
          · exact .inl fun e => h e.symm
          · by_cases e : ka = kb
            · exact .inr (.inl ⟨by omega, fun e => h' e.symm⟩)
            · exact .inl e
          · exact .inr (.inr (.inl fun e => h e.symm))
          · exact .inr (.inr (.inr fun e => h e.symm)))
        have hm : ma = mb := Classical.byContradiction fun e => h3 (.inr (.inr (.inr e)))
        rw [if_neg h3, if_neg h4]; subst hm; exact .inr (.inr ⟨_, _, _, rfl, rfl⟩)
theorem uniF_swap : ∀ (f : Nat) (L : Bs) (xs : List (T × T)), uniF f L (xs.map swapP) = uniF f L xs := by
  intro f
  induction f with
  | zero => intro L xs; cases xs <;> rfl
  | succ f ih =>
    intro L xs
    cases xs with
    | nil => rfl
    | cons x xs =>
      simp only [List.map_cons, uniF, swapP]
      rcases stepU_swap (L := L) (a := walkN L x.1) (b := walkN L x.2) with ⟨h1, h2⟩ | ⟨n, t, h1, h2⟩ | ⟨m, g, h, h1, h2⟩
      · rw [h1, h2]
      · rw [h1, h2]; exact ih _ _
      · rw [h1, h2]
        have e : pairsOf m h g ++ xs.map swapP = (pairsOf m g h ++ xs).map swapP := by simp [pairsOf, swapP, Function.comp_def]
        show uniF f L (pairsOf m h g ++ xs.map swapP) = uniF f L (pairsOf m g h ++ xs)
        rw [e]
        exact ih _ _
theorem uni_swap (f : Nat) (L : Bs) (a b : T) : uniF f L [(b, a)] = uniF f L [(a, b)] := uniF_swap f L [(a, b)]
/-! Nothing is bound just where both are the same. -/
theorem ok_kinds {k n : Int} {s : ByteArray} {m : Nat} {a : Nat → T} (h : (T.mk k n s m a).ok) : (k = 1 ∧ s = ⟨#[]⟩ ∧ m = 0) ∨ (k = 2 ∧ s = ⟨#[]⟩ ∧ m = 0) ∨ (k = 3 ∧ m = 0) ∨ k = 4 := by
  rcases h.1.1 with h | h | h | h
  · exact .inl ⟨h.1, h.2.2.2.1, h.2.2.2.2⟩
  · exact .inr (.inl ⟨h.1, h.2.2.1, h.2.2.2⟩)
  · exact .inr (.inr (.inl ⟨h.1, h.2.2.2⟩))
  · exact .inr (.inr (.inr h.1))
theorem step_same {a b : T} (ha : a.ok) (hb : b.ok) (he : eqT a b) : ∃ m g h, stepU [] a b = .args m g h ∧ ∀ i, i < m → eqT (g i) (h i) := by
  cases a with
  | nil => exact he.elim
  | mk ka na sa ma fa =>
  cases b with
  | nil => exact he.elim
  | mk kb nb sb mb fb =>
  obtain ⟨e1, e2, e3, e4⟩ := he
  subst e1
  simp only [stepU]
  by_cases h1 : ka = 1
  · rw [if_pos h1, if_pos h1, if_pos (e2 (.inl h1))]
    exact ⟨0, _, _, rfl, fun i hi => absurd hi (by omega)⟩
  · rw [if_neg h1, if_neg h1]
    have hk := ok_kinds ha
    have hk' := ok_kinds hb
    by_cases h2 : ka = 2
    · have := e2 (.inr h2)
      have hs : sa = sb := by rcases hk with h | h | h | h <;> first | omega | skip
                              rcases hk' with h' | h' | h' | h' <;> first | omega | skip
                              rw [h.2.1, h'.2.1]
      have hm : ma = 0 ∧ mb = 0 := by omega
      rw [if_neg (by rintro (h | h | h | h); exact h rfl; exact h.2 this; exact h hs; omega)]
      exact ⟨ma, _, _, rfl, fun i hi => by omega⟩
    · by_cases h3 : ka = 3
      · have hm : ma = 0 ∧ mb = 0 := by omega
        rw [if_neg (by rintro (h | h | h | h); exact h rfl; exact h2 h.1; exact h (e3 h3); omega)]
        exact ⟨ma, _, _, rfl, fun i hi => by omega⟩
      · obtain ⟨f1, f2, f3⟩ := e4 h1 h2 h3
        rw [if_neg (by rintro (h | h | h | h); exact h rfl; exact h2 h.1; exact h f2; exact h f1)]
        exact ⟨ma, _, _, rfl, f3⟩
theorem step_free {a b : T} (ha : a.ok) {m : Nat} {g h : Nat → T} (hs : stepU [] a b = .args m g h) (hi : ∀ i, i < m → eqT (g i) (h i)) : eqT a b := by
  cases a with
  | nil => cases hs
  | mk ka na sa ma fa =>
  cases b with
  | nil => cases hs
  | mk kb nb sb mb fb =>
  simp only [stepU] at hs
  by_cases h1 : ka = 1
  · by_cases h2 : kb = 1
    · rw [if_pos h1, if_pos h2] at hs
      by_cases h3 : na = nb
      · exact ⟨by omega, fun _ => h3, fun h => by omega, fun h => absurd h1 h⟩
      · rw [if_neg h3] at hs; split at hs <;> cases hs
    · rw [if_pos h1, if_neg h2] at hs; split at hs <;> cases hs
  · by_cases h2 : kb = 1
    · rw [if_neg h1, if_pos h2] at hs; split at hs <;> cases hs
    · rw [if_neg h1, if_neg h2] at hs
      split at hs
      · cases hs
      · rename_i hc
        injection hs with e1 e2 e3
        subst e1; subst e2; subst e3
        have c1 : ka = kb := Classical.byContradiction fun e => hc (.inl e)
        have c3 : sa = sb := Classical.byContradiction fun e => hc (.inr (.inr (.inl e)))
        have c4 : ma = mb := Classical.byContradiction fun e => hc (.inr (.inr (.inr e)))
        refine ⟨c1, fun h => ?_, fun _ => c3, fun _ _ _ => ⟨c4, c3, hi⟩⟩
        rcases h with h | h
        · exact absurd h h1
        · exact Classical.byContradiction fun e => hc (.inr (.inl ⟨h, e⟩))
theorem uni_same : ∀ (f : Nat) (xs : List (T × T)), (∀ p ∈ xs, p.1.ok ∧ p.2.ok ∧ eqT p.1 p.2) → (∃ f1, uniF f [] xs = .ok [] f1) ∨ uniF f [] xs = .many := by
  intro f
  induction f with
  | zero => intro xs _; cases xs with
    | nil => exact .inl ⟨0, rfl⟩
    | cons x xs => exact .inr rfl
  | succ f ih =>
    intro xs h
    cases xs with
    | nil => exact .inl ⟨_, rfl⟩
    | cons x xs =>
      obtain ⟨h1, h2, h3⟩ := h x List.mem_cons_self
      obtain ⟨m, g, k, hs, he⟩ := step_same h1 h2 h3
      simp only [uniF, walkN_nil, hs]
      refine ih _ fun p hp => ?_
      rcases List.mem_append.mp hp with hp | hp
      · obtain ⟨i, hi, rfl⟩ := List.mem_map.mp hp
        have hi' := List.mem_range.mp hi
        obtain ⟨_, hk⟩ := stepU_args h1 h2 hs
        exact ⟨(hk i hi').1, (hk i hi').2, he i hi'⟩
      · exact h p (List.mem_cons_of_mem _ hp)
theorem uni_none : ∀ (f : Nat) (xs : List (T × T)) (f1 : Nat), (∀ p ∈ xs, p.1.ok ∧ p.2.ok) → uniF f [] xs = .ok [] f1 → ∀ p ∈ xs, eqT p.1 p.2 := by
  intro f
  induction f with
  | zero => intro xs f1 _ h; cases xs with
    | nil => exact fun p hp => by cases hp
    | cons x xs => cases h
  | succ f ih =>
    intro xs f1 hok h
    cases xs with
    | nil => exact fun p hp => by cases hp
    | cons x xs =>
      obtain ⟨h1, h2⟩ := hok x List.mem_cons_self
      simp only [uniF, walkN_nil] at h
      cases hs : stepU [] x.1 x.2 with
      | fail => rw [hs] at h; cases h
      | bind n t =>
        rw [hs] at h
        obtain ⟨M, e⟩ := uniF_pre _ _ _ _ _ h
        cases e
      | args m g k =>
        rw [hs] at h
        obtain ⟨_, hk⟩ := stepU_args h1 h2 hs
        have hall := ih _ _ (fun p hp => by
          rcases List.mem_append.mp hp with hp | hp
          · exact pairsOf_ok hk p hp
          · exact hok p (List.mem_cons_of_mem _ hp)) h
        intro p hp
        rcases List.mem_cons.mp hp with rfl | hp
        · exact step_free h1 hs fun i hi => hall (g i, k i) (List.mem_append.mpr (.inl (List.mem_map.mpr ⟨i, List.mem_range.mpr hi, rfl⟩)))
        · exact hall p (List.mem_append.mpr (.inr hp))
/-- Two terms are alike just where nothing is bound, unless there are too many pairs. -/
theorem dif_same {a b : T} (ha : a.ok) (hb : b.ok) : difN (uniF 2000 [] [(a, b)]) = -4 ∨ (difN (uniF 2000 [] [(a, b)]) = -1 ↔ eqT a b) := by
  by_cases he : eqT a b
  · rcases uni_same 2000 [(a, b)] (fun p hp => by simp at hp; subst hp; exact ⟨ha, hb, he⟩) with ⟨f1, h⟩ | h
    · exact .inr ⟨fun _ => he, fun _ => by rw [h]; rfl⟩
    · exact .inl (by rw [h]; rfl)
  · refine .inr ⟨fun h => ?_, fun h => absurd h he⟩
    cases hr : uniF 2000 [] [(a, b)] with
    | unlike => rw [hr] at h; cases h
    | many => rw [hr] at h; cases h
    | ok L f =>
      rw [hr] at h
      cases L with
      | nil => exact uni_none _ _ _ (fun p hp => by simp at hp; subst hp; exact ⟨ha, hb⟩) hr (a, b) List.mem_cons_self
      | cons p L => cases h
theorem dif_self {a : T} (ha : a.ok) : (difN (uniF 2000 [] [(a, a)]) = -1 ∨ difN (uniF 2000 [] [(a, a)]) = -4) ∧ difL (uniF 2000 [] [(a, a)]) = [] := by
  rcases uni_same 2000 [(a, a)] (fun p hp => by simp at hp; subst hp; exact ⟨ha, ha, eqT_refl ha.thin⟩) with ⟨f1, h⟩ | h
  · rw [h]; exact ⟨.inl rfl, rfl⟩
  · rw [h]; exact ⟨.inr rfl, rfl⟩
end Go.Proofs.Ytjjkigphfijnbaa
