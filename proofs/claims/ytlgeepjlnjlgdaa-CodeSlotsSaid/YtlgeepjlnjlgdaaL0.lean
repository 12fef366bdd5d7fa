/- A plain lexer over the bytes of a text: what both lexers compute. -/
import Derived.WalkKit
import Derived.Test.YtlgeepjlnjlgdaaTk
namespace Go.Proofs.Ytlgeepjlnjlgdaa

/-- The byte of a text at a place (0 behind its end). -/
def bu (s : ByteArray) (i : Nat) : UInt8 := s.data.toList.getD i 0
def bn (s : ByteArray) (i : Nat) : Nat := (s.data.toList.getD i 0).toNat
theorem bn_bu (s : ByteArray) (i : Nat) : bn s i = (bu s i).toNat := rfl
theorem bn_eq (s : ByteArray) (i : Nat) (h : i < s.size) : (s[i]'h).toNat = bn s i := by
  obtain ⟨⟨l⟩⟩ := s
  have hl : i < l.length := h
  have e : (ByteArray.mk ⟨l⟩)[i]'h = l.getD i 0 := by
    simp only [List.getD, List.getElem?_eq_getElem hl, Option.getD_some]
    rfl
  simp [bn, e]
theorem bn_lt (s : ByteArray) (i : Nat) : bn s i < 256 := by
  unfold bn
  exact UInt8.toNat_lt _

def smallB (c : Int) : Bool := decide (97 ≤ c) && decide (c ≤ 122)
def greatB (c : Int) : Bool := (decide (65 ≤ c) && decide (c ≤ 90)) || decide (c = 95)
def digitB (c : Int) : Bool := decide (48 ≤ c) && decide (c ≤ 57)
def namedB (c : Int) : Bool := smallB c || greatB c || digitB c
def slit : ByteArray := { data := #[43, 45, 42, 47, 92, 94, 60, 62, 61, 58, 46, 63, 64, 35, 36, 38, 126] }
def signB (c : Int) : Bool := (List.range 17).any fun j => decide ((bn slit j : Int) = c)
def kindB (k c : Int) : Bool := (decide (k = 1) && namedB c) || (decide (k = 2) && digitB c) || (decide (k = 3) && signB c)
def blankB (c : Int) : Bool := c == 32 || c == 9 || c == 10 || c == 13
def markB (c : Int) : Bool := c == 40 || c == 41 || c == 91 || c == 93 || c == 123 || c == 125 || c == 44 || c == 124
def twoB (s : ByteArray) (i : Nat) (a b : Int) : Bool := decide (i + 1 < s.size) && ((bn s i : Int) == a) && ((bn s (i + 1) : Int) == b)

/-- The place behind all bytes of a kind. -/
def runF : Nat → Int → ByteArray → Nat → Nat
  | 0, _, _, j => j
  | f + 1, k, s, j => if kindB k (bn s j) then runF f k s (j + 1) else j
def runN (k : Int) (s : ByteArray) (j : Nat) : Nat := runF (s.size - j) k s j
theorem runN_step {k : Int} {s : ByteArray} {j : Nat} (h : j < s.size) (hk : kindB k (bn s j) = true) : runN k s j = runN k s (j + 1) := by
  obtain ⟨f, hf⟩ : ∃ f, s.size - j = f + 1 := ⟨s.size - j - 1, by omega⟩
  have : s.size - (j + 1) = f := by omega
  simp [runN, hf, runF, hk, this]
theorem runN_stop {k : Int} {s : ByteArray} {j : Nat} (hk : kindB k (bn s j) = false) : runN k s j = j := by
  unfold runN
  cases s.size - j with
  | zero => rfl
  | succ f => simp [runF, hk]
theorem runN_end {k : Int} {s : ByteArray} {j : Nat} (h : s.size ≤ j) : runN k s j = j := by
  have : s.size - j = 0 := by omega
  simp [runN, this, runF]
theorem runF_ge : ∀ (f : Nat) (k : Int) (s : ByteArray) (j : Nat), j ≤ runF f k s j ∧ runF f k s j ≤ j + f
  | 0, _, _, j => ⟨Nat.le_refl _, Nat.le_refl _⟩
  | f + 1, k, s, j => by
    unfold runF
    split
    · have := runF_ge f k s (j + 1); omega
    · omega
theorem runN_ge (k : Int) (s : ByteArray) (j : Nat) : j ≤ runN k s j := (runF_ge _ k s j).1
theorem runN_le {k : Int} {s : ByteArray} {j : Nat} (h : j ≤ s.size) : runN k s j ≤ s.size := by
  have := (runF_ge (s.size - j) k s j).2
  unfold runN
  omega
theorem runN_gt {k : Int} {s : ByteArray} {j : Nat} (h : j < s.size) (hk : kindB k (bn s j) = true) : j < runN k s j := by
  rw [runN_step h hk]
  exact runN_ge k s (j + 1)

/-- The place of the line's end. -/
def lineF : Nat → ByteArray → Nat → Nat
  | 0, _, j => j
  | f + 1, s, j => if (bn s j : Int) != 10 then lineF f s (j + 1) else j
def lineN (s : ByteArray) (j : Nat) : Nat := lineF (s.size - j) s j
theorem lineN_step {s : ByteArray} {j : Nat} (h : j < s.size) (hk : ((bn s j : Int) != 10) = true) : lineN s j = lineN s (j + 1) := by
  obtain ⟨f, hf⟩ : ∃ f, s.size - j = f + 1 := ⟨s.size - j - 1, by omega⟩
  have : s.size - (j + 1) = f := by omega
  simp only [lineN, hf, lineF, hk, this, if_true]
theorem lineN_stop {s : ByteArray} {j : Nat} (hk : ((bn s j : Int) != 10) = false) : lineN s j = j := by
  unfold lineN
  cases s.size - j with
  | zero => rfl
  | succ f => simp only [lineF, hk]; rfl
theorem lineN_end {s : ByteArray} {j : Nat} (h : s.size ≤ j) : lineN s j = j := by
  have : s.size - j = 0 := by omega
  simp [lineN, this, lineF]
theorem lineF_ge : ∀ (f : Nat) (s : ByteArray) (j : Nat), j ≤ lineF f s j ∧ lineF f s j ≤ j + f
  | 0, _, j => ⟨Nat.le_refl _, Nat.le_refl _⟩
  | f + 1, s, j => by
    unfold lineF
    split
    · have := lineF_ge f s (j + 1); omega
    · omega
theorem lineN_ge (s : ByteArray) (j : Nat) : j ≤ lineN s j := (lineF_ge _ s j).1
theorem lineN_le {s : ByteArray} {j : Nat} (h : j ≤ s.size) : lineN s j ≤ s.size := by
  have := (lineF_ge (s.size - j) s j).2
  unfold lineN
  omega

/-- The place of a comment's end; the text's size, if there is none. -/
def endF : Nat → ByteArray → Nat → Nat
  | 0, _, j => j
  | f + 1, s, j => if twoB s j 42 47 then j else endF f s (j + 1)
def endN (s : ByteArray) (j : Nat) : Nat := endF (s.size - j) s j
theorem endN_step {s : ByteArray} {j : Nat} (h : j < s.size) (hk : twoB s j 42 47 = false) : endN s j = endN s (j + 1) := by
  obtain ⟨f, hf⟩ : ∃ f, s.size - j = f + 1 := ⟨s.size - j - 1, by omega⟩
  have : s.size - (j + 1) = f := by omega
  simp [endN, hf, endF, hk, this]
theorem endN_stop {s : ByteArray} {j : Nat} (hk : twoB s j 42 47 = true) : endN s j = j := by
  unfold endN
  cases s.size - j with
  | zero => rfl
  | succ f => simp [endF, hk]
theorem endN_end {s : ByteArray} {j : Nat} (h : s.size ≤ j) : endN s j = j := by
  have : s.size - j = 0 := by omega
  simp [endN, this, endF]
theorem endF_ge : ∀ (f : Nat) (s : ByteArray) (j : Nat), j ≤ endF f s j
  | 0, _, j => Nat.le_refl _
  | f + 1, s, j => by
    unfold endF
    split
    · exact Nat.le_refl _
    · have := endF_ge f s (j + 1); omega
theorem endN_ge (s : ByteArray) (j : Nat) : j ≤ endN s j := endF_ge _ s j
theorem twoB_lt {s : ByteArray} {j : Nat} {a b : Int} (h : twoB s j a b = true) : j + 1 < s.size := by
  unfold twoB at h
  simp at h
  exact h.1.1
theorem endF_two : ∀ (f : Nat) (s : ByteArray) (j : Nat), s.size ≤ j + f → endF f s j < s.size → twoB s (endF f s j) 42 47 = true
  | 0, s, j, h, h2 => by unfold endF at h2; omega
  | f + 1, s, j, h, h2 => by
    unfold endF at h2 ⊢
    split at h2
    · rename_i h3; rw [if_pos h3]; exact h3
    · rename_i h3; rw [if_neg h3]; exact endF_two f s (j + 1) (by omega) h2
theorem endN_two {s : ByteArray} {j : Nat} (h : endN s j < s.size) : twoB s (endN s j) 42 47 = true := endF_two _ s j (by omega) h

/-- What lies between tokens: the place behind it; false: a comment without its end. -/
def betF : Nat → ByteArray → Nat → Nat × Bool
  | 0, _, j => (j, true)
  | f + 1, s, j =>
    if j < s.size then
      if blankB (bn s j) then betF f s (j + 1)
      else if (bn s j : Int) == 37 then betF f s (lineN s j)
      else if twoB s j 47 42 then (if endN s (j + 2) < s.size then betF f s (endN s (j + 2) + 2) else (j, false))
      else (j, true)
    else (j, true)
def betN (s : ByteArray) (j : Nat) : Nat × Bool := betF (s.size - j) s j
theorem line_gt {s : ByteArray} {j : Nat} (h : j < s.size) (hc : ((bn s j : Int) == 37) = true) : j < lineN s j := by
  have hc' : (bn s j : Int) = 37 := by simpa using hc
  rw [lineN_step h (by rw [hc']; decide)]
  exact lineN_ge s (j + 1)
theorem betF_same : ∀ (f f' : Nat) (s : ByteArray) (j : Nat), s.size ≤ j + f → s.size ≤ j + f' → betF f s j = betF f' s j
  | 0, 0, _, _, _, _ => rfl
  | 0, f' + 1, s, j, h, _ => by unfold betF; rw [if_neg (by omega)]
  | f + 1, 0, s, j, _, h => by unfold betF; rw [if_neg (by omega)]
  | f + 1, f' + 1, s, j, h, h' => by
    unfold betF
    by_cases hj : j < s.size
    · rw [if_pos hj, if_pos hj]
      split
      · exact betF_same f f' s _ (by omega) (by omega)
      · split
        · rename_i h37
          have := line_gt hj h37
          exact betF_same f f' s _ (by omega) (by omega)
        · split
          · have := endN_ge s (j + 2)
            split
            · exact betF_same f f' s _ (by omega) (by omega)
            · rfl
          · rfl
    · rw [if_neg hj, if_neg hj]
theorem betN_eq {s : ByteArray} {j : Nat} (h : j < s.size) : betN s j =
    if blankB (bn s j) then betN s (j + 1)
      else if (bn s j : Int) == 37 then betN s (lineN s j)
      else if twoB s j 47 42 then (if endN s (j + 2) < s.size then betN s (endN s (j + 2) + 2) else (j, false))
      else (j, true) := by
  obtain ⟨f, hf⟩ : ∃ f, s.size - j = f + 1 := ⟨s.size - j - 1, by omega⟩
  unfold betN
  rw [hf]
  conv => lhs; unfold betF
  rw [if_pos h]
  split
  · exact betF_same _ _ s _ (by omega) (by omega)
  · split
    · rename_i h37
      have := line_gt h h37
      exact betF_same _ _ s _ (by omega) (by omega)
    · split
      · have := endN_ge s (j + 2)
        split
        · exact betF_same _ _ s _ (by omega) (by omega)
        · rfl
      · rfl
theorem betN_end {s : ByteArray} {j : Nat} (h : s.size ≤ j) : betN s j = (j, true) := by
  have : s.size - j = 0 := by omega
  simp [betN, this, betF]
theorem betF_ge : ∀ (f : Nat) (s : ByteArray) (j : Nat), j ≤ s.size → j ≤ (betF f s j).1 ∧ (betF f s j).1 ≤ s.size
  | 0, _, j, h => ⟨Nat.le_refl _, h⟩
  | f + 1, s, j, h => by
    unfold betF
    by_cases hj : j < s.size
    · rw [if_pos hj]
      split
      · have := betF_ge f s (j + 1) (by omega); omega
      · split
        · have := betF_ge f s (lineN s j) (lineN_le h); have := lineN_ge s j; omega
        · split
          · have h1 := endN_ge s (j + 2)
            split
            · rename_i h2
              have h3 := twoB_lt (endN_two h2)
              have := betF_ge f s (endN s (j + 2) + 2) (by omega); omega
            · exact ⟨Nat.le_refl _, h⟩
          · exact ⟨Nat.le_refl _, h⟩
    · rw [if_neg hj]; exact ⟨Nat.le_refl _, h⟩
theorem betN_ge {s : ByteArray} {j : Nat} (h : j ≤ s.size) : j ≤ (betN s j).1 ∧ (betN s j).1 ≤ s.size := betF_ge _ s j h

/-- A quoted atom. -/
inductive QuoR where
  | ok (t : List UInt8) (p : Nat)
  | bad (p : Nat) (e : Int)
def quoF : Nat → ByteArray → Nat → Nat → List UInt8 → QuoR
  | 0, _, i, _, _ => .bad i 31
  | f + 1, s, i, k, b =>
    if k < s.size then
      if twoB s k 39 39 then quoF f s i (k + 2) (b ++ [39])
      else if (bn s k : Int) == 39 then .ok b (k + 1)
      else if (bn s k : Int) == 92 then
        if k + 1 = s.size then .bad i 31
        else if (bn s (k + 1) : Int) == 110 then quoF f s i (k + 2) (b ++ [10])
        else if (bn s (k + 1) : Int) == 116 then quoF f s i (k + 2) (b ++ [9])
        else if (bn s (k + 1) : Int) == 92 || (bn s (k + 1) : Int) == 39 then quoF f s i (k + 2) (b ++ [bu s (k + 1)])
        else .bad k 32
      else if decide ((bn s k : Int) < 32) || decide ((126 : Int) < (bn s k : Int)) then .bad k 30
      else quoF f s i (k + 1) (b ++ [bu s k])
    else .bad i 31
def quoN (s : ByteArray) (i k : Nat) (b : List UInt8) : QuoR := quoF (s.size - k) s i k b
theorem quoF_same : ∀ (f f' : Nat) (s : ByteArray) (i k : Nat) (b : List UInt8), s.size ≤ k + f → s.size ≤ k + f' → quoF f s i k b = quoF f' s i k b
  | 0, 0, _, _, _, _, _, _ => rfl
  | 0, f' + 1, s, i, k, b, h, _ => by unfold quoF; rw [if_neg (by omega)]
  | f + 1, 0, s, i, k, b, _, h => by unfold quoF; rw [if_neg (by omega)]
  | f + 1, f' + 1, s, i, k, b, h, h' => by
    unfold quoF
    have e1 : ∀ b', quoF f s i (k + 1) b' = quoF f' s i (k + 1) b' := fun b' => quoF_same f f' s i _ b' (by omega) (by omega)
    have e2 : ∀ b', quoF f s i (k + 2) b' = quoF f' s i (k + 2) b' := fun b' => quoF_same f f' s i _ b' (by omega) (by omega)
    simp only [e1, e2]
theorem quoN_eq {s : ByteArray} {i k : Nat} {b : List UInt8} (h : k < s.size) : quoN s i k b =
      if twoB s k 39 39 then quoN s i (k + 2) (b ++ [39])
      else if (bn s k : Int) == 39 then .ok b (k + 1)
      else if (bn s k : Int) == 92 then
        if k + 1 = s.size then .bad i 31
        else if (bn s (k + 1) : Int) == 110 then quoN s i (k + 2) (b ++ [10])
        else if (bn s (k + 1) : Int) == 116 then quoN s i (k + 2) (b ++ [9])
        else if (bn s (k + 1) : Int) == 92 || (bn s (k + 1) : Int) == 39 then quoN s i (k + 2) (b ++ [bu s (k + 1)])
        else .bad k 32
      else if decide ((bn s k : Int) < 32) || decide ((126 : Int) < (bn s k : Int)) then .bad k 30
      else quoN s i (k + 1) (b ++ [bu s k]) := by
  obtain ⟨f, hf⟩ : ∃ f, s.size - k = f + 1 := ⟨s.size - k - 1, by omega⟩
  unfold quoN
  rw [hf]
  conv => lhs; unfold quoF
  rw [if_pos h]
  have e1 : ∀ b', quoF f s i (k + 1) b' = quoF (s.size - (k + 1)) s i (k + 1) b' := fun b' => quoF_same _ _ s i _ b' (by omega) (by omega)
  have e2 : ∀ b', quoF f s i (k + 2) b' = quoF (s.size - (k + 2)) s i (k + 2) b' := fun b' => quoF_same _ _ s i _ b' (by omega) (by omega)
  simp only [e1, e2]
theorem quoN_end {s : ByteArray} {i k : Nat} {b : List UInt8} (h : s.size ≤ k) : quoN s i k b = .bad i 31 := by
  have : s.size - k = 0 := by omega
  simp [quoN, this, quoF]
/-- A byte that an atom may hold. -/
def byteB (c : UInt8) : Bool := c == 10 || c == 9 || (decide (32 ≤ c.toNat) && decide (c.toNat ≤ 126))
theorem quoF_ok : ∀ (f : Nat) (s : ByteArray) (i k : Nat) (b t : List UInt8) (p : Nat), (∀ c ∈ b, byteB c = true) → b.length ≤ k → quoF f s i k b = .ok t p → k < p ∧ p ≤ s.size ∧ t.length ≤ p ∧ ∀ c ∈ t, byteB c = true
  | 0, _, _, _, _, _, _, _, _, h => by unfold quoF at h; cases h
  | f + 1, s, i, k, b, t, p, hb, hl, h => by
    unfold quoF at h
    have add : ∀ c, byteB c = true → ∀ x ∈ b ++ [c], byteB x = true := fun c hc x hx => by
      rcases List.mem_append.1 hx with h1 | h1
      · exact hb x h1
      · simp at h1; subst h1; exact hc
    by_cases hk : k < s.size
    · rw [if_pos hk] at h
      split at h
      · have := quoF_ok f s i _ _ t p (add 39 (by decide)) (by simp; omega) h; exact ⟨by omega, this.2.1, this.2.2.1, this.2.2.2⟩
      · split at h
        · injection h with h1 h2; subst h1; subst h2; exact ⟨by omega, by omega, by omega, hb⟩
        · split at h
          · split at h
            · cases h
            · split at h
              · have := quoF_ok f s i _ _ t p (add 10 (by decide)) (by simp; omega) h; exact ⟨by omega, this.2.1, this.2.2.1, this.2.2.2⟩
              · split at h
                · have := quoF_ok f s i _ _ t p (add 9 (by decide)) (by simp; omega) h; exact ⟨by omega, this.2.1, this.2.2.1, this.2.2.2⟩
                · split at h
                  · rename_i h9
                    have hc : byteB (bu s (k + 1)) = true := by
                      simp only [bn_bu, Bool.or_eq_true, beq_iff_eq] at h9
                      unfold byteB
                      simp
                      omega
                    have := quoF_ok f s i _ _ t p (add _ hc) (by simp; omega) h; exact ⟨by omega, this.2.1, this.2.2.1, this.2.2.2⟩
                  · cases h
          · split at h
            · cases h
            · rename_i h9
              have hc : byteB (bu s k) = true := by
                have h1 : 32 ≤ (bu s k).toNat ∧ (bu s k).toNat ≤ 126 := by
                  have h2 : ¬ ((bn s k : Int) < 32) := fun h => h9 (by rw [decide_eq_true h]; rfl)
                  have h3 : ¬ ((126 : Int) < (bn s k : Int)) := fun h => h9 (by rw [decide_eq_true h, Bool.or_true])
                  rw [bn_bu] at h2 h3
                  omega
                unfold byteB
                rw [decide_eq_true h1.1, decide_eq_true h1.2]
                simp
              have := quoF_ok f s i _ _ t p (add _ hc) (by simp; omega) h; exact ⟨by omega, this.2.1, this.2.2.1, this.2.2.2⟩
    · rw [if_neg hk] at h; cases h
/-- Does a bracket right behind an atom open its arguments? -/
def opens (o : Option Tk) (f : Nat) : Bool := match o with
  | some x => x.k == 1 && x.b == f
  | none => false
/-- A token's kind and the place behind it (of a quoted one 0); none: a byte that may not stand there. -/
def headN (s : ByteArray) (f : Nat) (o : Option Tk) : Option (Int × Nat) :=
  if (bn s f : Int) == 46 && (decide (f + 1 = s.size) || blankB (bn s (f + 1)) || (bn s (f + 1) : Int) == 37) then some (6, f + 1)
  else if smallB (bn s f) then some (1, runN 1 s f)
  else if greatB (bn s f) then some (2, runN 1 s f)
  else if digitB (bn s f) then some (3, runN 2 s f)
  else if signB (bn s f) then some (1, runN 3 s f)
  else if (bn s f : Int) == 33 || (bn s f : Int) == 59 then some (1, f + 1)
  else if (bn s f : Int) == 39 then some (1, 0)
  else if markB (bn s f) then some (if (bn s f : Int) == 40 && opens o f then 4 else 5, f + 1)
  else none
inductive LexR where
  | ok (l : List Tk)
  | bad (p : Nat) (e : Int)
def toksF : Nat → ByteArray → Nat → List Tk → LexR
  | 0, _, _, l => .ok l
  | fu + 1, s, k, l =>
    if k < s.size then
      match betN s k with
      | (f, false) => .bad f 31
      | (f, true) =>
        if f = s.size then .ok l
        else match headN s f l.getLast? with
          | none => .bad f 30
          | some (K, j) =>
            if l.length = 1000 then .bad f 34
            else if (bn s f : Int) == 39 then
              match quoN s f (f + 1) [] with
              | .ok t p => toksF fu s p (l ++ [⟨K, ⟨t.toArray⟩, f, p⟩])
              | .bad p e => .bad p e
            else toksF fu s j (l ++ [⟨K, s.extract f j, f, j⟩])
    else .ok l
def toksN (s : ByteArray) (k : Nat) (l : List Tk) : LexR := toksF (s.size - k) s k l
/-- All tokens of a text. -/
def lexN (s : ByteArray) : LexR := if 4096 < s.size then .bad 0 33 else toksN s 0 []
theorem signB_iff {c : Int} : signB c = true ↔ c ∈ ([43, 45, 42, 47, 92, 94, 60, 62, 61, 58, 46, 63, 64, 35, 36, 38, 126] : List Int) := by
  simp only [signB, List.any_eq_true, List.mem_range, decide_eq_true_eq]
  constructor
  · rintro ⟨j, hj, rfl⟩
    revert j
    decide
  · intro h
    simp only [List.mem_cons, List.not_mem_nil, or_false] at h
    rcases h with rfl | rfl | rfl | rfl | rfl | rfl | rfl | rfl | rfl | rfl | rfl | rfl | rfl | rfl | rfl | rfl | rfl
    all_goals first | exact ⟨0, by decide, by decide⟩ | exact ⟨1, by decide, by decide⟩ | exact ⟨2, by decide, by decide⟩ | exact ⟨3, by decide, by decide⟩ | exact ⟨4, by decide, by decide⟩ | exact ⟨5, by decide, by decide⟩ | exact ⟨6, by decide, by decide⟩ | exact ⟨7, by decide, by decide⟩ | exact ⟨8, by decide, by decide⟩ | exact ⟨9, by decide, by decide⟩ | exact ⟨10, by decide, by decide⟩ | exact ⟨11, by decide, by decide⟩ | exact ⟨12, by decide, by decide⟩ | exact ⟨13, by decide, by decide⟩ | exact ⟨14, by decide, by decide⟩ | exact ⟨15, by decide, by decide⟩ | exact ⟨16, by decide, by decide⟩
/-- The place behind a token, of a kind that a run has. -/
theorem headN_ok {s : ByteArray} {f : Nat} {o : Option Tk} {K : Int} {j : Nat} (h : headN s f o = some (K, j)) (hf : f < s.size) (hq : ((bn s f : Int) == 39) = false) : 1 ≤ K ∧ K ≤ 6 ∧ f < j ∧ j ≤ s.size := by
  unfold headN at h
  have r1 : ∀ k, kindB k (bn s f) = true → f < runN k s f ∧ runN k s f ≤ s.size := fun k hk => ⟨runN_gt hf hk, runN_le (by omega)⟩
  split at h
  · injection h with h; injection h with h1 h2; subst h1; subst h2; omega
  · split at h
    · rename_i hs
      have := r1 1 (by simp [kindB, namedB, hs])
      injection h with h; injection h with h1 h2; subst h1; subst h2; omega
    · split at h
      · rename_i hs
        have := r1 1 (by simp [kindB, namedB, hs])
        injection h with h; injection h with h1 h2; subst h1; subst h2; omega
      · split at h
        · rename_i hs
          have := r1 2 (by simp [kindB, hs])
          injection h with h; injection h with h1 h2; subst h1; subst h2; omega
        · split at h
          · rename_i hs
            have := r1 3 (by simp [kindB, hs])
            injection h with h; injection h with h1 h2; subst h1; subst h2; omega
          · split at h
            · injection h with h; injection h with h1 h2; subst h1; subst h2; omega
            · rw [hq] at h
              simp only [Bool.false_eq_true, if_false] at h
              split at h
              · injection h with h; injection h with h1 h2
                split at h1 <;> subst h1 <;> subst h2 <;> omega
              · cases h
theorem headN_kind {s : ByteArray} {f : Nat} {o : Option Tk} {K : Int} {j : Nat} (h : headN s f o = some (K, j)) : 1 ≤ K ∧ K ≤ 6 := by
  unfold headN at h
  repeat' split at h
  all_goals first | (injection h with h; injection h with h1 h2; first | (subst h1; decide) | (split at h1 <;> subst h1 <;> decide)) | cases h
theorem toksF_same : ∀ (fu fu' : Nat) (s : ByteArray) (k : Nat) (l : List Tk), s.size ≤ k + fu → s.size ≤ k + fu' → toksF fu s k l = toksF fu' s k l
  | 0, 0, _, _, _, _, _ => rfl
  | 0, fu' + 1, s, k, l, h, _ => by unfold toksF; rw [if_neg (by omega)]
  | fu + 1, 0, s, k, l, _, h => by unfold toksF; rw [if_neg (by omega)]
  | fu + 1, fu' + 1, s, k, l, h, h' => by
    unfold toksF
    by_cases hk : k < s.size
    · rw [if_pos hk, if_pos hk]
      have hb := betN_ge (s := s) (j := k) (by omega)
      cases hbe : betN s k with
      | mk f ok =>
        rw [hbe] at hb
        dsimp only at hb
        cases ok with
        | false => rfl
        | true =>
          dsimp only
          by_cases hf : f = s.size
          · rw [if_pos hf, if_pos hf]
          rw [if_neg hf, if_neg hf]
          cases hh : headN s f l.getLast? with
          | none => rfl
          | some q =>
            obtain ⟨K, j⟩ := q
            dsimp only
            split
            · rfl
            · split
              · cases hq : quoN s f (f + 1) [] with
                | ok t p =>
                  dsimp only
                  have := quoF_ok _ _ _ _ _ _ _ (by simp) (Nat.zero_le _) hq
                  exact toksF_same fu fu' s p _ (by omega) (by omega)
                | bad p e => rfl
              · rename_i h39
                have := headN_ok hh (by omega) (by simpa using h39)
                exact toksF_same fu fu' s j _ (by omega) (by omega)
    · rw [if_neg hk, if_neg hk]
theorem toksN_eq {s : ByteArray} {k : Nat} {l : List Tk} (h : k < s.size) : toksN s k l =
      match betN s k with
      | (f, false) => .bad f 31
      | (f, true) =>
        if f = s.size then .ok l
        else match headN s f l.getLast? with
          | none => .bad f 30
          | some (K, j) =>
            if l.length = 1000 then .bad f 34
            else if (bn s f : Int) == 39 then
              match quoN s f (f + 1) [] with
              | .ok t p => toksN s p (l ++ [⟨K, ⟨t.toArray⟩, f, p⟩])
              | .bad p e => .bad p e
            else toksN s j (l ++ [⟨K, s.extract f j, f, j⟩]) := by
  obtain ⟨fu, hfu⟩ : ∃ fu, s.size - k = fu + 1 := ⟨s.size - k - 1, by omega⟩
  unfold toksN
  rw [hfu]
  conv => lhs; unfold toksF
  rw [if_pos h]
  have hb := betN_ge (s := s) (j := k) (by omega)
  cases hbe : betN s k with
  | mk f ok =>
    rw [hbe] at hb
    dsimp only at hb
    cases ok with
    | false => rfl
    | true =>
      dsimp only
      by_cases hf : f = s.size
      · rw [if_pos hf, if_pos hf]
      rw [if_neg hf, if_neg hf]
      cases hh : headN s f l.getLast? with
      | none => rfl
      | some q =>
        obtain ⟨K, j⟩ := q
        dsimp only
        split
        · rfl
        · split
          · cases hq : quoN s f (f + 1) [] with
            | ok t p =>
              dsimp only
              have := quoF_ok _ _ _ _ _ _ _ (by simp) (Nat.zero_le _) hq
              exact toksF_same _ _ s p _ (by omega) (by omega)
            | bad p e => rfl
          · rename_i h39
            have := headN_ok hh (by omega) (by simpa using h39)
            exact toksF_same _ _ s j _ (by omega) (by omega)
theorem toksN_end {s : ByteArray} {k : Nat} {l : List Tk} (h : s.size ≤ k) : toksN s k l = .ok l := by
  have : s.size - k = 0 := by omega
  simp [toksN, this, toksF]
end Go.Proofs.Ytlgeepjlnjlgdaa
