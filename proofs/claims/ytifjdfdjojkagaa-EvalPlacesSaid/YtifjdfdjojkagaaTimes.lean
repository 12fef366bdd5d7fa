/- Plain arithmetic of the school's multiplication over lists of digits. No program in sight. -/
import Derived.Test.YtifjdfdjojkagaaDigits
namespace Go.Proofs.Ytifjdfdjojkagaa.Dg

theorem getD_set (o : List Nat) (j v i : Nat) (hj : j < o.length) : (o.set j v).getD i 0 = if i = j then v else o.getD i 0 := by
  rw [List.getD_eq_getElem?_getD, List.getElem?_set]
  by_cases h : j = i
  · subst h
    simp [hj]
  · have h2 : ¬ i = j := fun e => h e.symm
    rw [if_neg h, if_neg h2, List.getD_eq_getElem?_getD]
theorem val_set (o : List Nat) (j v : Nat) (hj : j < o.length) : val (o.set j v) + 32768 ^ j * o.getD j 0 = val o + 32768 ^ j * v := by
  induction o generalizing j with
  | nil => simp at hj
  | cons d o ih =>
    cases j with
    | zero => simp [val]; omega
    | succ j =>
      have h := ih j (by simpa using hj)
      have hg : (d :: o).getD (j + 1) 0 = o.getD j 0 := by simp [List.getD_eq_getElem?_getD]
      simp only [List.set_cons_succ, val, hg, Nat.pow_succ]
      have e1 : 32768 ^ j * 32768 * o.getD j 0 = 32768 * (32768 ^ j * o.getD j 0) := by rw [Nat.mul_comm (32768 ^ j) 32768, Nat.mul_assoc]
      have e2 : 32768 ^ j * 32768 * v = 32768 * (32768 ^ j * v) := by rw [Nat.mul_comm (32768 ^ j) 32768, Nat.mul_assoc]
      rw [e1, e2]
      omega

/-- A carry from place j to the next: the value stays. -/
def carry (o : List Nat) (j t y : Nat) : List Nat := ((o.set j t).set (j + 1) (y + t / 32768)).set j (t % 32768)
theorem carry_len (o : List Nat) (j t y : Nat) : (carry o j t y).length = o.length := by simp [carry]
theorem carry_at (o : List Nat) (j t y i : Nat) (hj : j + 1 < o.length) : (carry o j t y).getD i 0 = if i = j then t % 32768 else if i = j + 1 then y + t / 32768 else o.getD i 0 := by
  unfold carry
  rw [getD_set _ _ _ _ (by simp; omega)]
  by_cases h : i = j
  · rw [if_pos h, if_pos h]
  · rw [if_neg h, if_neg h, getD_set _ _ _ _ (by simp; omega)]
    by_cases h2 : i = j + 1
    · rw [if_pos h2, if_pos h2]
    · rw [if_neg h2, if_neg h2, getD_set _ _ _ _ (by omega), if_neg h]
theorem carry_val (o : List Nat) (j t y : Nat) (hj : j + 1 < o.length) (hy : o.getD (j + 1) 0 = y) : val (carry o j t y) + 32768 ^ j * o.getD j 0 = val o + 32768 ^ j * t := by
  unfold carry
  have h1 := val_set o j t (by omega)
  have h2 := val_set (o.set j t) (j + 1) (y + t / 32768) (by simp; omega)
  have h3 := val_set ((o.set j t).set (j + 1) (y + t / 32768)) j (t % 32768) (by simp; omega)
  rw [getD_set _ _ _ _ (by omega), if_neg (by omega), hy] at h2
  rw [getD_set _ _ _ _ (by simp; omega), if_neg (by omega), getD_set _ _ _ _ (by omega), if_pos rfl] at h3
  have h4 : 32768 ^ (j + 1) * (y + t / 32768) = 32768 ^ (j + 1) * y + 32768 ^ j * (32768 * (t / 32768)) := by rw [Nat.mul_add, Nat.pow_succ, Nat.mul_assoc (32768 ^ j)  32768 (t / 32768)]
  have h5 : 32768 ^ j * t = 32768 ^ j * (32768 * (t / 32768)) + 32768 ^ j * (t % 32768) := by rw [← Nat.mul_add, Nat.div_add_mod]
  omega
theorem val_take_succ (l : List Nat) (k : Nat) (hk : k < l.length) : val (l.take (k + 1)) = val (l.take k) + 32768 ^ k * l.getD k 0 := by
  rw [List.take_succ_eq_append_getElem hk, val_snoc, List.getD_eq_getElem?_getD, List.getElem?_eq_getElem hk, List.length_take, Nat.min_eq_left (by omega)]
  rfl
theorem val_ge_at (l : List Nat) (j : Nat) : 32768 ^ j * l.getD j 0 ≤ val l := by
  induction l generalizing j with
  | nil => simp [List.getD_eq_getElem?_getD]
  | cons d l ih =>
    cases j with
    | zero => simp [val, List.getD_eq_getElem?_getD]
    | succ j =>
      have h := ih j
      have hg : (d :: l).getD (j + 1) 0 = l.getD j 0 := by simp [List.getD_eq_getElem?_getD]
      rw [hg, Nat.pow_succ, Nat.mul_comm (32768 ^ j) 32768, Nat.mul_assoc]
      simp only [val]
      omega
theorem ok_of_getD {l : List Nat} (h : ∀ j, l.getD j 0 < 32768) : Ok l := by
  intro d hd
  obtain ⟨j, hj, rfl⟩ := List.mem_iff_getElem.1 hd
  have := h j
  rwa [List.getD_eq_getElem?_getD, List.getElem?_eq_getElem hj] at this

/-- What the two loops of 'times' have laid down when a's first i places, and of the next one b's first k, are done. -/
structure Mul (la lb o : List Nat) (i k : Nat) : Prop where
  len : o.length = la.length + lb.length + 1
  sum : val o = val (la.take i) * val lb + 32768 ^ i * (la.getD i 0 * val (lb.take k))
  low : ∀ j, j ≠ i + k → o.getD j 0 ≤ 32768
  top : o.getD (i + k) 0 ≤ if k < lb.length then 65536 else 32768
  fresh : k = 0 → o.getD i 0 ≤ 32768
  zero : ∀ j, i + lb.length < j ∨ (j = i + lb.length ∧ k < lb.length) → o.getD j 0 = 0

theorem Mul.start (la lb : List Nat) : Mul la lb (List.replicate (la.length + lb.length + 1) 0) 0 0 := by
  have hz : ∀ j, (List.replicate (la.length + lb.length + 1) 0).getD j 0 = 0 := fun j => by
    rw [List.getD_eq_getElem?_getD, List.getElem?_replicate]
    split <;> rfl
  refine ⟨by simp, by simp [val_replicate_zero, val], fun j _ => by rw [hz]; omega, by rw [hz]; omega, fun _ => by rw [hz]; omega, fun j _ => hz j⟩
theorem Mul.step {la lb o : List Nat} {i k x y a b : Nat} (h : Mul la lb o i k) (ha : Ok la) (hb : Ok lb) (hi : i < la.length) (hk : k < lb.length) (hx : o.getD (i + k) 0 = x) (hy : o.getD (i + k + 1) 0 = y)
    (h1 : la.getD i 0 = a) (h2 : lb.getD k 0 = b) : Mul la lb (carry o (i + k) (x + a * b) y) i (k + 1) := by
  have hl := h.len
  have ha' : a < 32768 := by
    rw [← h1, List.getD_eq_getElem?_getD, List.getElem?_eq_getElem hi]; exact ha _ (List.getElem_mem hi)
  have hb' : b < 32768 := by
    rw [← h2, List.getD_eq_getElem?_getD, List.getElem?_eq_getElem hk]; exact hb _ (List.getElem_mem hk)
  have hab : a * b ≤ 32767 * 32767 := Nat.mul_le_mul (by omega) (by omega)
  have hxt := h.top
  rw [if_pos hk, hx] at hxt
  have hyl := h.low (i + k + 1) (by omega)
  rw [hy] at hyl
  have hc : (x + a * b) / 32768 ≤ 32768 := by omega
  refine ⟨by rw [carry_len]; exact hl, ?_, ?_, ?_, fun h => absurd h (by omega), ?_⟩
  · have hv := carry_val o (i + k) (x + a * b) y (by omega) hy
    rw [hx, Nat.mul_add] at hv
    have hs := h.sum
    rw [val_take_succ lb k hk, h2, Nat.mul_add, Nat.mul_add, h1]
    rw [h1] at hs
    have e1 : 32768 ^ i * (a * (32768 ^ k * b)) = 32768 ^ (i + k) * (a * b) := by
      rw [Nat.pow_add]
      simp only [Nat.mul_assoc, Nat.mul_left_comm, Nat.mul_comm]
    rw [e1]
    omega
  · intro j hj
    rw [carry_at _ _ _ _ _ (by omega)]
    split
    · omega
    · rename_i hne
      rw [if_neg (by omega)]
      exact h.low j hne
  · rw [carry_at _ _ _ _ _ (by omega), if_neg (by omega), if_pos (by omega)]
    split
    · omega
    · have hz := h.zero (i + k + 1) (.inr ⟨by omega, hk⟩)
      omega
  · intro j hj
    rw [carry_at _ _ _ _ _ (by omega), if_neg (by omega), if_neg (by omega)]
    exact h.zero j (by omega)
theorem Mul.next {la lb o : List Nat} {i k : Nat} (h : Mul la lb o i k) (hi : i < la.length) (hk : k = lb.length) : Mul la lb o (i + 1) 0 := by
  subst hk
  have h32 : o.getD (i + 1 + 0) 0 ≤ 32768 := by
    by_cases hj : i + 1 + 0 = i + lb.length
    · have ht := h.top
      rw [if_neg (by omega)] at ht
      rw [hj]; exact ht
    · exact h.low _ hj
  refine ⟨h.len, ?_, ?_, ?_, ?_, ?_⟩
  · have hs := h.sum
    rw [List.take_of_length_le (Nat.le_refl _)] at hs
    rw [hs, val_take_succ la i hi, Nat.add_mul]
    simp [val, Nat.mul_assoc]
  · intro j _
    by_cases hj : j = i + lb.length
    · have ht := h.top
      rw [if_neg (by omega)] at ht
      rw [hj]; exact ht
    · exact h.low j hj
  · have h1 : o.getD (i + 1 + 0) 0 ≤ 32768 := h32
    split <;> omega
  · exact fun _ => h32
  · intro j hj
    exact h.zero j (by omega)

/-- The last loop: the carries that are left. -/
structure Last (X : Nat) (o : List Nat) (L i : Nat) : Prop where
  len : o.length = L
  sum : val o = X
  below : ∀ j, j < i → o.getD j 0 < 32768
  at_ : o.getD i 0 ≤ 32769
  above : ∀ j, i < j → o.getD j 0 ≤ 32768
theorem Mul.last {la lb o : List Nat} {i : Nat} (h : Mul la lb o i 0) (hi : i = la.length) : Last (val la * val lb) o (la.length + lb.length + 1) 0 := by
  subst hi
  have hall : ∀ j, o.getD j 0 ≤ 32768 := by
    intro j
    by_cases hj : j = la.length + 0
    · rw [hj]; exact h.fresh rfl
    · exact h.low j hj
  refine ⟨h.len, ?_, fun j hj => absurd hj (by omega), by have := hall 0; omega, fun j _ => hall j⟩
  have hs := h.sum
  rw [List.take_of_length_le (Nat.le_refl _)] at hs
  rw [hs]; simp [val]
theorem Last.step {X L i t y : Nat} {o : List Nat} (h : Last X o L i) (hi : i + 1 < L) (ht : o.getD i 0 = t) (hy : o.getD (i + 1) 0 = y) : Last X (carry o i t y) L (i + 1) := by
  have hl := h.len
  have h1 := h.at_
  rw [ht] at h1
  have h2 := h.above (i + 1) (by omega)
  rw [hy] at h2
  refine ⟨by rw [carry_len]; exact hl, ?_, ?_, ?_, ?_⟩
  · have hv := carry_val o i t y (by omega) hy
    have := h.sum
    rw [ht] at hv
    omega
  · intro j hj
    rw [carry_at _ _ _ _ _ (by omega)]
    split
    · omega
    · rename_i hne
      rw [if_neg (by omega)]
      exact h.below j (by omega)
  · rw [carry_at _ _ _ _ _ (by omega), if_neg (by omega), if_pos rfl]
    omega
  · intro j hj
    rw [carry_at _ _ _ _ _ (by omega), if_neg (by omega), if_neg (by omega)]
    exact h.above j (by omega)
theorem Last.done {X L i : Nat} {o : List Nat} (h : Last X o L i) (hi : i + 1 = L) (hX : X < 32768 ^ i) : Ok o ∧ val o = X := by
  refine ⟨ok_of_getD fun j => ?_, h.sum⟩
  rcases Nat.lt_trichotomy j i with hj | hj | hj
  · exact h.below j hj
  · subst hj
    have h1 := val_ge_at o j
    rw [h.sum] at h1
    rcases Nat.eq_zero_or_pos (o.getD j 0) with h0 | h0
    · rw [h0]; omega
    · have : 32768 ^ j * 1 ≤ 32768 ^ j * o.getD j 0 := Nat.mul_le_mul_left _ h0
      omega
  · have hl := h.len
    rw [List.getD_eq_getElem?_getD, List.getElem?_eq_none (by omega)]
    decide
theorem mul_lt_pow {M N n m : Nat} (h1 : M < 32768 ^ n) (h2 : N < 32768 ^ m) : M * N < 32768 ^ (n + m) := by
  rw [Nat.pow_add]
  exact Nat.mul_lt_mul'' h1 h2
end Go.Proofs.Ytifjdfdjojkagaa.Dg
