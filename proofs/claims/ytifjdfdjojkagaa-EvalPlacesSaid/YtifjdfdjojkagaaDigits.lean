/- Plain arithmetic: lists of digits to the base 32768, lowest first; no program in sight. -/
namespace Go.Proofs.Ytifjdfdjojkagaa.Dg

def val : List Nat → Nat
  | [] => 0
  | d :: l => d + 32768 * val l

/-- Every digit is below the base. -/
def Ok (l : List Nat) : Prop := ∀ d ∈ l, d < 32768

/-- No zero at the end. -/
def Norm (l : List Nat) : Prop := ∀ d, l.getLast? = some d → d ≠ 0

theorem val_append (a b : List Nat) : val (a ++ b) = val a + 32768 ^ a.length * val b := by
  induction a with
  | nil => simp [val]
  | cons d a ih =>
    simp only [List.cons_append, val, ih, List.length_cons, Nat.pow_succ, Nat.mul_add, Nat.mul_comm (32768 ^ a.length) 32768, Nat.mul_assoc, Nat.add_assoc]

theorem val_lt (l : List Nat) (h : Ok l) : val l < 32768 ^ l.length := by
  induction l with
  | nil => simp [val]
  | cons d l ih =>
    have h1 := h d (by simp)
    have h2 := ih (fun x hx => h x (by simp [hx]))
    simp only [val, List.length_cons, Nat.pow_succ]
    omega

theorem val_replicate_zero (n : Nat) : val (List.replicate n 0) = 0 := by
  induction n with
  | zero => rfl
  | succ n ih => simp [List.replicate_succ, val, ih]

theorem Ok.cons {d : Nat} {l : List Nat} (hd : d < 32768) (h : Ok l) : Ok (d :: l) := by
  intro x hx
  rcases List.mem_cons.1 hx with rfl | hx
  · exact hd
  · exact h x hx
theorem Ok.append {a b : List Nat} (ha : Ok a) (hb : Ok b) : Ok (a ++ b) := by
  intro x hx
  rcases List.mem_append.1 hx with hx | hx
  · exact ha x hx
  · exact hb x hx
theorem Ok.left {a b : List Nat} (h : Ok (a ++ b)) : Ok a := fun x hx => h x (by simp [hx])
theorem Ok.right {a b : List Nat} (h : Ok (a ++ b)) : Ok b := fun x hx => h x (by simp [hx])
theorem Ok.nil : Ok [] := fun x hx => by simp at hx
theorem Ok.take {l : List Nat} (h : Ok l) (n : Nat) : Ok (l.take n) := fun x hx => h x (List.mem_of_mem_take hx)

theorem Norm.tail {d : Nat} {l : List Nat} (h : Norm (d :: l)) : Norm l := by
  intro x hx
  apply h
  cases l with
  | nil => simp at hx
  | cons a l => simpa using hx

/-- A normal list is known by its value. -/
theorem val_pos {d : Nat} {l : List Nat} (hn : Norm (d :: l)) : 0 < val (d :: l) := by
  induction l generalizing d with
  | nil =>
    have := hn d rfl
    simp only [val]; omega
  | cons e l ih =>
    have := ih hn.tail
    simp only [val] at this ⊢
    omega

theorem val_eq_zero {l : List Nat} (hn : Norm l) : val l = 0 ↔ l = [] := by
  cases l with
  | nil => simp [val]
  | cons d l =>
    have := val_pos hn
    constructor
    · intro h; omega
    · intro h; cases h

theorem val_inj {a b : List Nat} (ha : Ok a) (hb : Ok b) (na : Norm a) (nb : Norm b) (h : val a = val b) : a = b := by
  induction a generalizing b with
  | nil =>
    have : val b = 0 := by rw [← h]; rfl
    exact ((val_eq_zero nb).1 this).symm
  | cons d a ih =>
    cases b with
    | nil =>
      have := val_pos na
      simp only [val] at h this
      omega
    | cons e b =>
      have h1 := ha d (by simp)
      have h2 := hb e (by simp)
      simp only [val] at h
      have : val a = val b := by omega
      have h3 := ih (fun x hx => ha x (by simp [hx])) (fun x hx => hb x (by simp [hx])) na.tail nb.tail this
      subst h3
      have : d = e := by omega
      rw [this]

/-- Longer normal lists are greater. -/
theorem val_ge {l : List Nat} (hn : Norm l) (h : l ≠ []) : 32768 ^ (l.length - 1) ≤ val l := by
  induction l with
  | nil => exact absurd rfl h
  | cons d l ih =>
    cases l with
    | nil => have := hn d rfl; simp [val]; omega
    | cons e l =>
      have := ih hn.tail (by simp)
      simp only [val, List.length_cons, Nat.add_sub_cancel, Nat.pow_succ] at this ⊢
      omega

theorem val_lt_of_length {a b : List Nat} (ha : Ok a) (nb : Norm b) (h : a.length < b.length) : val a < val b := by
  have h1 := val_lt a ha
  have h2 := val_ge nb (by intro e; subst e; simp at h)
  have h3 : 32768 ^ a.length ≤ 32768 ^ (b.length - 1) := Nat.pow_le_pow_right (by omega) (by omega)
  omega

/-- Same length, the places from i on alike, place i less: less. -/
theorem val_lt_of_digit {a b : List Nat} {i : Nat} (ha : Ok a) (hl : a.length = b.length) (hd : a.drop (i + 1) = b.drop (i + 1)) (hi : i < a.length) (hlt : a.getD i 0 < b.getD i 0) : val a < val b := by
  have hib : i < b.length := by omega
  have ea : a = a.take i ++ (a.getD i 0 :: a.drop (i + 1)) := by
    rw [List.getD_eq_getElem?_getD, List.getElem?_eq_getElem hi]
    simp
  have eb : b = b.take i ++ (b.getD i 0 :: b.drop (i + 1)) := by
    rw [List.getD_eq_getElem?_getD, List.getElem?_eq_getElem hib]
    simp
  rw [ea, eb, val_append, val_append]
  have h1 := val_lt (a.take i) (ha.take i)
  have l1 : (a.take i).length = i := by simp; omega
  have l2 : (b.take i).length = i := by simp; omega
  rw [l1] at h1 ⊢
  rw [l2, hd]
  simp only [val]
  have : 32768 ^ i * (a.getD i 0 + 1) ≤ 32768 ^ i * b.getD i 0 := Nat.mul_le_mul_left _ hlt
  rw [Nat.mul_add] at this
  rw [Nat.mul_add, Nat.mul_add]
  omega

theorem val_snoc (l : List Nat) (d : Nat) : val (l ++ [d]) = val l + 32768 ^ l.length * d := by
  rw [val_append]; simp [val]

theorem val_drop_snoc_zero (l : List Nat) : val (l ++ [0]) = val l := by rw [val_snoc]; simp

end Go.Proofs.Ytifjdfdjojkagaa.Dg
