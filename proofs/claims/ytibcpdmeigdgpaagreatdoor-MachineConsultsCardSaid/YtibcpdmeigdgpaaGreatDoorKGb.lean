/- A plain lexer over the bytes of a text: what both lexers compute. The reference's reader as one plain function over tokens: terms, sentences, or the place and the error. No program in sight. The plain lexer, token by token; what its tokens are. Names: what a token's text is made of; names that can be quoted. Numbers' texts, plain: what a number is printed as is read back as it, by Atoi and by the document's Parse. -/
import Derived.WalkKit
import Derived.Test.YtibcpdmeigdgpaaGreatDoorKGa
import Derived.Lib.ItoaNum
import Derived.RowKit
import Derived.Lib.AtoiAllCases
import Derived.Lib.ItoaLen
namespace Go.Proofs.YtibcpdmeigdgpaaGreatDoor
def bu (s : ByteArray) (i : Nat) : UInt8 := s.data.toList.getD i 0
def bn (s : ByteArray) (i : Nat) : Nat := (s.data.toList.getD i 0).toNat
theorem bn_bu (s : ByteArray) (i : Nat) : bn s i = (bu s i).toNat := rfl
theorem bn_eq (s : ByteArray) (i : Nat) (h : i < s.size) : (s[i]'h).toNat = bn s i := by
 obtain ⟨⟨l⟩⟩ := s
 have hl : i < l.length := h
 have e : (ByteArray.mk ⟨l⟩)[i]'h = l.getD i 0 := by
  simp only [List.getD, List.getElem?_eq_getElem hl, Option.getD_some]
  rfl
 simp [bn, e]
theorem bn_lt (s : ByteArray) (i : Nat) : bn s i < 256 := by
 unfold bn
 exact UInt8.toNat_lt _
def smallB (c : Int) : Bool := decide (97 ≤ c) && decide (c ≤ 122)
def greatB (c : Int) : Bool := (decide (65 ≤ c) && decide (c ≤ 90)) || decide (c = 95)
def digitB (c : Int) : Bool := decide (48 ≤ c) && decide (c ≤ 57)
def namedB (c : Int) : Bool := smallB c || greatB c || digitB c
def slit : ByteArray := { data := #[43, 45, 42, 47, 92, 94, 60, 62, 61, 58, 46, 63, 64, 35, 36, 38, 126] }
def signB (c : Int) : Bool := (List.range 17).any fun j => decide ((bn slit j : Int) = c)
def kindB (k c : Int) : Bool := (decide (k = 1) && namedB c) || (decide (k = 2) && digitB c) || (decide (k = 3) && signB c)
def blankB (c : Int) : Bool := c == 32 || c == 9 || c == 10 || c == 13
def markB (c : Int) : Bool := c == 40 || c == 41 || c == 91 || c == 93 || c == 123 || c == 125 || c == 44 || c == 124
def twoB (s : ByteArray) (i : Nat) (a b : Int) : Bool := decide (i + 1 < s.size) && ((bn s i : Int) == a) && ((bn s (i + 1) : Int) == b)
def runF : Nat → Int → ByteArray → Nat → Nat
 | 0, _, _, j => j
 | f + 1, k, s, j => if kindB k (bn s j) then runF f k s (j + 1) else j
def runN (k : Int) (s : ByteArray) (j : Nat) : Nat := runF (s.size - j) k s j
theorem runN_step {k : Int} {s : ByteArray} {j : Nat} (h : j < s.size) (hk : kindB k (bn s j) = true) : runN k s j = runN k s (j + 1) := by
 obtain ⟨f, hf⟩ : ∃ f, s.size - j = f + 1 := ⟨s.size - j - 1, by omega⟩
 have : s.size - (j + 1) = f := by omega
 simp [runN, hf, runF, hk, this]
theorem runN_stop {k : Int} {s : ByteArray} {j : Nat} (hk : kindB k (bn s j) = false) : runN k s j = j := by
 unfold runN
 cases s.size - j with
 | zero => rfl
 | succ f => simp [runF, hk]
theorem runN_end {k : Int} {s : ByteArray} {j : Nat} (h : s.size ≤ j) : runN k s j = j := by
 have : s.size - j = 0 := by omega
 simp [runN, this, runF]
theorem runF_ge : ∀ (f : Nat) (k : Int) (s : ByteArray) (j : Nat), j ≤ runF f k s j ∧ runF f k s j ≤ j + f
 | 0, _, _, j => ⟨Nat.le_refl _, Nat.le_refl _⟩
 | f + 1, k, s, j => by
  unfold runF
  split
  ·have := runF_ge f k s (j + 1); omega
  ·omega
theorem runN_ge (k : Int) (s : ByteArray) (j : Nat) : j ≤ runN k s j := (runF_ge _ k s j).1
theorem runN_le {k : Int} {s : ByteArray} {j : Nat} (h : j ≤ s.size) : runN k s j ≤ s.size := by
 have := (runF_ge (s.size - j) k s j).2
 unfold runN
 omega
theorem runN_gt {k : Int} {s : ByteArray} {j : Nat} (h : j < s.size) (hk : kindB k (bn s j) = true) : j < runN k s j := by
 rw [runN_step h hk]
 exact runN_ge k s (j + 1)
def lineF : Nat → ByteArray → Nat → Nat
 | 0, _, j => j
 | f + 1, s, j => if (bn s j : Int) != 10 then lineF f s (j + 1) else j
def lineN (s : ByteArray) (j : Nat) : Nat := lineF (s.size - j) s j
theorem lineN_step {s : ByteArray} {j : Nat} (h : j < s.size) (hk : ((bn s j : Int) != 10) = true) : lineN s j = lineN s (j + 1) := by
 obtain ⟨f, hf⟩ : ∃ f, s.size - j = f + 1 := ⟨s.size - j - 1, by omega⟩
 have : s.size - (j + 1) = f := by omega
 simp only [lineN, hf, lineF, hk, this, if_true]
theorem lineN_stop {s : ByteArray} {j : Nat} (hk : ((bn s j : Int) != 10) = false) : lineN s j = j := by
 unfold lineN
 cases s.size - j with
 | zero => rfl
 | succ f => simp only [lineF, hk]; rfl
theorem lineN_end {s : ByteArray} {j : Nat} (h : s.size ≤ j) : lineN s j = j := by
 have : s.size - j = 0 := by omega
 simp [lineN, this, lineF]
theorem lineF_ge : ∀ (f : Nat) (s : ByteArray) (j : Nat), j ≤ lineF f s j ∧ lineF f s j ≤ j + f
 | 0, _, j => ⟨Nat.le_refl _, Nat.le_refl _⟩
 | f + 1, s, j => by
  unfold lineF
  split
  ·have := lineF_ge f s (j + 1); omega
  ·omega
theorem lineN_ge (s : ByteArray) (j : Nat) : j ≤ lineN s j := (lineF_ge _ s j).1
theorem lineN_le {s : ByteArray} {j : Nat} (h : j ≤ s.size) : lineN s j ≤ s.size := by
 have := (lineF_ge (s.size - j) s j).2
 unfold lineN
 omega
def endF : Nat → ByteArray → Nat → Nat
 | 0, _, j => j
 | f + 1, s, j => if twoB s j 42 47 then j else endF f s (j + 1)
def endN (s : ByteArray) (j : Nat) : Nat := endF (s.size - j) s j
theorem endN_step {s : ByteArray} {j : Nat} (h : j < s.size) (hk : twoB s j 42 47 = false) : endN s j = endN s (j + 1) := by
 obtain ⟨f, hf⟩ : ∃ f, s.size - j = f + 1 := ⟨s.size - j - 1, by omega⟩
 have : s.size - (j + 1) = f := by omega
 simp [endN, hf, endF, hk, this]
theorem endN_stop {s : ByteArray} {j : Nat} (hk : twoB s j 42 47 = true) : endN s j = j := by
 unfold endN
 cases s.size - j with
 | zero => rfl
 | succ f => simp [endF, hk]
theorem endN_end {s : ByteArray} {j : Nat} (h : s.size ≤ j) : endN s j = j := by
 have : s.size - j = 0 := by omega
 simp [endN, this, endF]
theorem endF_ge : ∀ (f : Nat) (s : ByteArray) (j : Nat), j ≤ endF f s j
 | 0, _, j => Nat.le_refl _
 | f + 1, s, j => by
  unfold endF
  split
  ·exact Nat.le_refl _
  ·have := endF_ge f s (j + 1); omega
theorem endN_ge (s : ByteArray) (j : Nat) : j ≤ endN s j := endF_ge _ s j
theorem twoB_lt {s : ByteArray} {j : Nat} {a b : Int} (h : twoB s j a b = true) : j + 1 < s.size := by
 unfold twoB at h
 simp at h
 exact h.1.1
theorem endF_two : ∀ (f : Nat) (s : ByteArray) (j : Nat), s.size ≤ j + f → endF f s j < s.size → twoB s (endF f s j) 42 47 = true
 | 0, s, j, h, h2 => by unfold endF at h2; omega
 | f + 1, s, j, h, h2 => by
  unfold endF at h2 ⊢
  split at h2
  ·rename_i h3; rw [if_pos h3]; exact h3
  ·rename_i h3; rw [if_neg h3]; exact endF_two f s (j + 1) (by omega) h2
theorem endN_two {s : ByteArray} {j : Nat} (h : endN s j < s.size) : twoB s (endN s j) 42 47 = true := endF_two _ s j (by omega) h
def betF : Nat → ByteArray → Nat → Nat × Bool
 | 0, _, j => (j, true)
 | f + 1, s, j =>
  if j < s.size then
   if blankB (bn s j) then betF f s (j + 1)
   else if (bn s j : Int) == 37 then betF f s (lineN s j)
   else if twoB s j 47 42 then (if endN s (j + 2) < s.size then betF f s (endN s (j + 2) + 2) else (j, false))
   else (j, true)
  else (j, true)
def betN (s : ByteArray) (j : Nat) : Nat × Bool := betF (s.size - j) s j
theorem line_gt {s : ByteArray} {j : Nat} (h : j < s.size) (hc : ((bn s j : Int) == 37) = true) : j < lineN s j := by
 have hc' : (bn s j : Int) = 37 := by simpa using hc
 rw [lineN_step h (by rw [hc']; decide)]
 exact lineN_ge s (j + 1)
theorem betF_same : ∀ (f f' : Nat) (s : ByteArray) (j : Nat), s.size ≤ j + f → s.size ≤ j + f' → betF f s j = betF f' s j
 | 0, 0, _, _, _, _ => rfl
 | 0, f' + 1, s, j, h, _ => by unfold betF; rw [if_neg (by omega)]
 | f + 1, 0, s, j, _, h => by unfold betF; rw [if_neg (by omega)]
 | f + 1, f' + 1, s, j, h, h' => by
  unfold betF
  by_cases hj : j < s.size
  ·rw [if_pos hj, if_pos hj]
   split
   ·exact betF_same f f' s _ (by omega) (by omega)
   ·split
    ·rename_i h37
     have := line_gt hj h37
     exact betF_same f f' s _ (by omega) (by omega)
    ·split
     ·have := endN_ge s (j + 2)
      split
      ·exact betF_same f f' s _ (by omega) (by omega)
      ·rfl
     ·rfl
  ·rw [if_neg hj, if_neg hj]
theorem betN_eq {s : ByteArray} {j : Nat} (h : j < s.size) : betN s j =
 if blankB (bn s j) then betN s (j + 1)
  else if (bn s j : Int) == 37 then betN s (lineN s j)
  else if twoB s j 47 42 then (if endN s (j + 2) < s.size then betN s (endN s (j + 2) + 2) else (j, false))
  else (j, true) := by
 obtain ⟨f, hf⟩ : ∃ f, s.size - j = f + 1 := ⟨s.size - j - 1, by omega⟩
 unfold betN
 rw [hf]
 conv => lhs; unfold betF
 rw [if_pos h]
 split
 ·exact betF_same _ _ s _ (by omega) (by omega)
 ·split
  ·rename_i h37
   have := line_gt h h37
   exact betF_same _ _ s _ (by omega) (by omega)
  ·split
   ·have := endN_ge s (j + 2)
    split
    ·exact betF_same _ _ s _ (by omega) (by omega)
    ·rfl
   ·rfl
theorem betN_end {s : ByteArray} {j : Nat} (h : s.size ≤ j) : betN s j = (j, true) := by
 have : s.size - j = 0 := by omega
 simp [betN, this, betF]
theorem betF_ge : ∀ (f : Nat) (s : ByteArray) (j : Nat), j ≤ s.size → j ≤ (betF f s j).1 ∧ (betF f s j).1 ≤ s.size
 | 0, _, j, h => ⟨Nat.le_refl _, h⟩
 | f + 1, s, j, h => by
  unfold betF
  by_cases hj : j < s.size
  ·rw [if_pos hj]
   split
   ·have := betF_ge f s (j + 1) (by omega); omega
   ·split
    ·have := betF_ge f s (lineN s j) (lineN_le h); have := lineN_ge s j; omega
    ·split
     ·have h1 := endN_ge s (j + 2)
      split
      ·rename_i h2
       have h3 := twoB_lt (endN_two h2)
       have := betF_ge f s (endN s (j + 2) + 2) (by omega); omega
      ·exact ⟨Nat.le_refl _, h⟩
     ·exact ⟨Nat.le_refl _, h⟩
  ·rw [if_neg hj]; exact ⟨Nat.le_refl _, h⟩
theorem betN_ge {s : ByteArray} {j : Nat} (h : j ≤ s.size) : j ≤ (betN s j).1 ∧ (betN s j).1 ≤ s.size := betF_ge _ s j h
inductive QuoR where
 | ok (t : List UInt8) (p : Nat)
 | bad (p : Nat) (e : Int)
def quoF : Nat → ByteArray → Nat → Nat → List UInt8 → QuoR
 | 0, _, i, _, _ => .bad i 31
 | f + 1, s, i, k, b =>
  if k < s.size then
   if twoB s k 39 39 then quoF f s i (k + 2) (b ++ [39])
   else if (bn s k : Int) == 39 then .ok b (k + 1)
   else if (bn s k : Int) == 92 then
    if k + 1 = s.size then .bad i 31
    else if (bn s (k + 1) : Int) == 110 then quoF f s i (k + 2) (b ++ [10])
    else if (bn s (k + 1) : Int) == 116 then quoF f s i (k + 2) (b ++ [9])
    else if (bn s (k + 1) : Int) == 92 || (bn s (k + 1) : Int) == 39 then quoF f s i (k + 2) (b ++ [bu s (k + 1)])
    else .bad k 32
   else if decide ((bn s k : Int) < 32) || decide ((126 : Int) < (bn s k : Int)) then .bad k 30
   else quoF f s i (k + 1) (b ++ [bu s k])
  else .bad i 31
def quoN (s : ByteArray) (i k : Nat) (b : List UInt8) : QuoR := quoF (s.size - k) s i k b
theorem quoF_same : ∀ (f f' : Nat) (s : ByteArray) (i k : Nat) (b : List UInt8), s.size ≤ k + f → s.size ≤ k + f' → quoF f s i k b = quoF f' s i k b
 | 0, 0, _, _, _, _, _, _ => rfl
 | 0, f' + 1, s, i, k, b, h, _ => by unfold quoF; rw [if_neg (by omega)]
 | f + 1, 0, s, i, k, b, _, h => by unfold quoF; rw [if_neg (by omega)]
 | f + 1, f' + 1, s, i, k, b, h, h' => by
  unfold quoF
  have e1 : ∀ b', quoF f s i (k + 1) b' = quoF f' s i (k + 1) b' := fun b' => quoF_same f f' s i _ b' (by omega) (by omega)
  have e2 : ∀ b', quoF f s i (k + 2) b' = quoF f' s i (k + 2) b' := fun b' => quoF_same f f' s i _ b' (by omega) (by omega)
  simp only [e1, e2]
theorem quoN_eq {s : ByteArray} {i k : Nat} {b : List UInt8} (h : k < s.size) : quoN s i k b =
 if twoB s k 39 39 then quoN s i (k + 2) (b ++ [39])
 else if (bn s k : Int) == 39 then .ok b (k + 1)
 else if (bn s k : Int) == 92 then
  if k + 1 = s.size then .bad i 31
  else if (bn s (k + 1) : Int) == 110 then quoN s i (k + 2) (b ++ [10])
  else if (bn s (k + 1) : Int) == 116 then quoN s i (k + 2) (b ++ [9])
  else if (bn s (k + 1) : Int) == 92 || (bn s (k + 1) : Int) == 39 then quoN s i (k + 2) (b ++ [bu s (k + 1)])
  else .bad k 32
 else if decide ((bn s k : Int) < 32) || decide ((126 : Int) < (bn s k : Int)) then .bad k 30
 else quoN s i (k + 1) (b ++ [bu s k]) := by
 obtain ⟨f, hf⟩ : ∃ f, s.size - k = f + 1 := ⟨s.size - k - 1, by omega⟩
 unfold quoN
 rw [hf]
 conv => lhs; unfold quoF
 rw [if_pos h]
 have e1 : ∀ b', quoF f s i (k + 1) b' = quoF (s.size - (k + 1)) s i (k + 1) b' := fun b' => quoF_same _ _ s i _ b' (by omega) (by omega)
 have e2 : ∀ b', quoF f s i (k + 2) b' = quoF (s.size - (k + 2)) s i (k + 2) b' := fun b' => quoF_same _ _ s i _ b' (by omega) (by omega)
 simp only [e1, e2]
theorem quoN_end {s : ByteArray} {i k : Nat} {b : List UInt8} (h : s.size ≤ k) : quoN s i k b = .bad i 31 := by
 have : s.size - k = 0 := by omega
 simp [quoN, this, quoF]
def byteB (c : UInt8) : Bool := c == 10 || c == 9 || (decide (32 ≤ c.toNat) && decide (c.toNat ≤ 126))
theorem quoF_ok : ∀ (f : Nat) (s : ByteArray) (i k : Nat) (b t : List UInt8) (p : Nat), (∀ c ∈ b, byteB c = true) → b.length ≤ k → quoF f s i k b = .ok t p → k < p ∧ p ≤ s.size ∧ t.length ≤ p ∧ ∀ c ∈ t, byteB c = true
 | 0, _, _, _, _, _, _, _, _, h => by unfold quoF at h; cases h
 | f + 1, s, i, k, b, t, p, hb, hl, h => by
  unfold quoF at h
  have add : ∀ c, byteB c = true → ∀ x ∈ b ++ [c], byteB x = true := fun c hc x hx => by
   rcases List.mem_append.1 hx with h1 | h1
   ·exact hb x h1
   ·simp at h1; subst h1; exact hc
  by_cases hk : k < s.size
  ·rw [if_pos hk] at h
   split at h
   ·have := quoF_ok f s i _ _ t p (add 39 (by decide)) (by simp; omega) h; exact ⟨by omega, this.2.1, this.2.2.1, this.2.2.2⟩
   ·split at h
    ·injection h with h1 h2; subst h1; subst h2; exact ⟨by omega, by omega, by omega, hb⟩
    ·split at h
     ·split at h
      ·cases h
      ·split at h
       ·have := quoF_ok f s i _ _ t p (add 10 (by decide)) (by simp; omega) h; exact ⟨by omega, this.2.1, this.2.2.1, this.2.2.2⟩
       ·split at h
        ·have := quoF_ok f s i _ _ t p (add 9 (by decide)) (by simp; omega) h; exact ⟨by omega, this.2.1, this.2.2.1, this.2.2.2⟩
        ·split at h
         ·rename_i h9
          have hc : byteB (bu s (k + 1)) = true := by
           simp only [bn_bu, Bool.or_eq_true, beq_iff_eq] at h9
           unfold byteB
           simp
           omega
          have := quoF_ok f s i _ _ t p (add _ hc) (by simp; omega) h; exact ⟨by omega, this.2.1, this.2.2.1, this.2.2.2⟩
         ·cases h
     ·split at h
      ·cases h
      ·rename_i h9
       have hc : byteB (bu s k) = true := by
        have h1 : 32 ≤ (bu s k).toNat ∧ (bu s k).toNat ≤ 126 := by
         have h2 : ¬ ((bn s k : Int) < 32) := fun h => h9 (by rw [decide_eq_true h]; rfl)
         have h3 : ¬ ((126 : Int) < (bn s k : Int)) := fun h => h9 (by rw [decide_eq_true h, Bool.or_true])
         rw [bn_bu] at h2 h3
         omega
        unfold byteB
        rw [decide_eq_true h1.1, decide_eq_true h1.2]
        simp
       have := quoF_ok f s i _ _ t p (add _ hc) (by simp; omega) h; exact ⟨by omega, this.2.1, this.2.2.1, this.2.2.2⟩
  ·rw [if_neg hk] at h; cases h
def opens (o : Option Tk) (f : Nat) : Bool := match o with
 | some x => x.k == 1 && x.b == f
 | none => false
def headN (s : ByteArray) (f : Nat) (o : Option Tk) : Option (Int × Nat) :=
 if (bn s f : Int) == 46 && (decide (f + 1 = s.size) || blankB (bn s (f + 1)) || (bn s (f + 1) : Int) == 37) then some (6, f + 1)
 else if smallB (bn s f) then some (1, runN 1 s f)
 else if greatB (bn s f) then some (2, runN 1 s f)
 else if digitB (bn s f) then some (3, runN 2 s f)
 else if signB (bn s f) then some (1, runN 3 s f)
 else if (bn s f : Int) == 33 || (bn s f : Int) == 59 then some (1, f + 1)
 else if (bn s f : Int) == 39 then some (1, 0)
 else if markB (bn s f) then some (if (bn s f : Int) == 40 && opens o f then 4 else 5, f + 1)
 else none
inductive LexR where
 | ok (l : List Tk)
 | bad (p : Nat) (e : Int)
def toksF : Nat → ByteArray → Nat → List Tk → LexR
 | 0, _, _, l => .ok l
 | fu + 1, s, k, l =>
  if k < s.size then
   match betN s k with
   | (f, false) => .bad f 31
   | (f, true) =>
    if f = s.size then .ok l
    else match headN s f l.getLast? with
     | none => .bad f 30
     | some (K, j) =>
      if l.length = 1000 then .bad f 34
      else if (bn s f : Int) == 39 then
       match quoN s f (f + 1) [] with
       | .ok t p => toksF fu s p (l ++ [⟨K, ⟨t.toArray⟩, f, p⟩])
       | .bad p e => .bad p e
      else toksF fu s j (l ++ [⟨K, s.extract f j, f, j⟩])
  else .ok l
def toksN (s : ByteArray) (k : Nat) (l : List Tk) : LexR := toksF (s.size - k) s k l
def lexN (s : ByteArray) : LexR := if 4096 < s.size then .bad 0 33 else toksN s 0 []
theorem signB_iff {c : Int} : signB c = true ↔ c ∈ ([43, 45, 42, 47, 92, 94, 60, 62, 61, 58, 46, 63, 64, 35, 36, 38, 126] : List Int) := by
 simp only [signB, List.any_eq_true, List.mem_range, decide_eq_true_eq]
 constructor
 ·rintro ⟨j, hj, rfl⟩
  revert j
  decide
 ·intro h
  simp only [List.mem_cons, List.not_mem_nil, or_false] at h
  rcases h with rfl | rfl | rfl | rfl | rfl | rfl | rfl | rfl | rfl | rfl | rfl | rfl | rfl | rfl | rfl | rfl | rfl
  all_goals first | exact ⟨0, by decide, by decide⟩ | exact ⟨1, by decide, by decide⟩ | exact ⟨2, by decide, by decide⟩ | exact ⟨3, by decide, by decide⟩ | exact ⟨4, by decide, by decide⟩ | exact ⟨5, by decide, by decide⟩ | exact ⟨6, by decide, by decide⟩ | exact ⟨7, by decide, by decide⟩ | exact ⟨8, by decide, by decide⟩ | exact ⟨9, by decide, by decide⟩ | exact ⟨10, by decide, by decide⟩ | exact ⟨11, by decide, by decide⟩ | exact ⟨12, by decide, by decide⟩ | exact ⟨13, by decide, by decide⟩ | exact ⟨14, by decide, by decide⟩ | exact ⟨15, by decide, by decide⟩ | exact ⟨16, by decide, by decide⟩
theorem headN_ok {s : ByteArray} {f : Nat} {o : Option Tk} {K : Int} {j : Nat} (h : headN s f o = some (K, j)) (hf : f < s.size) (hq : ((bn s f : Int) == 39) = false) : 1 ≤ K ∧ K ≤ 6 ∧ f < j ∧ j ≤ s.size := by
 unfold headN at h
 have r1 : ∀ k, kindB k (bn s f) = true → f < runN k s f ∧ runN k s f ≤ s.size := fun k hk => ⟨runN_gt hf hk, runN_le (by omega)⟩
 split at h
 ·injection h with h; injection h with h1 h2; subst h1; subst h2; omega
 ·split at h
  ·rename_i hs
   have := r1 1 (by simp [kindB, namedB, hs])
   injection h with h; injection h with h1 h2; subst h1; subst h2; omega
  ·split at h
   ·rename_i hs
    have := r1 1 (by simp [kindB, namedB, hs])
    injection h with h; injection h with h1 h2; subst h1; subst h2; omega
   ·split at h
    ·rename_i hs
     have := r1 2 (by simp [kindB, hs])
     injection h with h; injection h with h1 h2; subst h1; subst h2; omega
    ·split at h
     ·rename_i hs
      have := r1 3 (by simp [kindB, hs])
      injection h with h; injection h with h1 h2; subst h1; subst h2; omega
     ·split at h
      ·injection h with h; injection h with h1 h2; subst h1; subst h2; omega
      ·rw [hq] at h
       simp only [Bool.false_eq_true, if_false] at h
       split at h
       ·injection h with h; injection h with h1 h2
        split at h1 <;> subst h1 <;> subst h2 <;> omega
       ·cases h
theorem headN_kind {s : ByteArray} {f : Nat} {o : Option Tk} {K : Int} {j : Nat} (h : headN s f o = some (K, j)) : 1 ≤ K ∧ K ≤ 6 := by
 unfold headN at h
 repeat' split at h
 all_goals first | (injection h with h; injection h with h1 h2; first | (subst h1; decide) | (split at h1 <;> subst h1 <;> decide)) | cases h
theorem toksF_same : ∀ (fu fu' : Nat) (s : ByteArray) (k : Nat) (l : List Tk), s.size ≤ k + fu → s.size ≤ k + fu' → toksF fu s k l = toksF fu' s k l
 | 0, 0, _, _, _, _, _ => rfl
 | 0, fu' + 1, s, k, l, h, _ => by unfold toksF; rw [if_neg (by omega)]
 | fu + 1, 0, s, k, l, _, h => by unfold toksF; rw [if_neg (by omega)]
 | fu + 1, fu' + 1, s, k, l, h, h' => by
  unfold toksF
  by_cases hk : k < s.size
  ·rw [if_pos hk, if_pos hk]
   have hb := betN_ge (s := s) (j := k) (by omega)
   cases hbe : betN s k with
   | mk f ok =>
    rw [hbe] at hb
    dsimp only at hb
    cases ok with
    | false => rfl
    | true =>
     dsimp only
     by_cases hf : f = s.size
     ·rw [if_pos hf, if_pos hf]
     rw [if_neg hf, if_neg hf]
     cases hh : headN s f l.getLast? with
     | none => rfl
     | some q =>
      obtain ⟨K, j⟩ := q
      dsimp only
      split
      ·rfl
      ·split
       ·cases hq : quoN s f (f + 1) [] with
        | ok t p =>
         dsimp only
         have := quoF_ok _ _ _ _ _ _ _ (by simp) (Nat.zero_le _) hq
         exact toksF_same fu fu' s p _ (by omega) (by omega)
        | bad p e => rfl
       ·rename_i h39
        have := headN_ok hh (by omega) (by simpa using h39)
        exact toksF_same fu fu' s j _ (by omega) (by omega)
  ·rw [if_neg hk, if_neg hk]
theorem toksN_eq {s : ByteArray} {k : Nat} {l : List Tk} (h : k < s.size) : toksN s k l =
 match betN s k with
 | (f, false) => .bad f 31
 | (f, true) =>
  if f = s.size then .ok l
  else match headN s f l.getLast? with
   | none => .bad f 30
   | some (K, j) =>
    if l.length = 1000 then .bad f 34
    else if (bn s f : Int) == 39 then
     match quoN s f (f + 1) [] with
     | .ok t p => toksN s p (l ++ [⟨K, ⟨t.toArray⟩, f, p⟩])
     | .bad p e => .bad p e
    else toksN s j (l ++ [⟨K, s.extract f j, f, j⟩]) := by
 obtain ⟨fu, hfu⟩ : ∃ fu, s.size - k = fu + 1 := ⟨s.size - k - 1, by omega⟩
 unfold toksN
 rw [hfu]
 conv => lhs; unfold toksF
 rw [if_pos h]
 have hb := betN_ge (s := s) (j := k) (by omega)
 cases hbe : betN s k with
 | mk f ok =>
  rw [hbe] at hb
  dsimp only at hb
  cases ok with
  | false => rfl
  | true =>
   dsimp only
   by_cases hf : f = s.size
   ·rw [if_pos hf, if_pos hf]
   rw [if_neg hf, if_neg hf]
   cases hh : headN s f l.getLast? with
   | none => rfl
   | some q =>
    obtain ⟨K, j⟩ := q
    dsimp only
    split
    ·rfl
    ·split
     ·cases hq : quoN s f (f + 1) [] with
      | ok t p =>
       dsimp only
       have := quoF_ok _ _ _ _ _ _ _ (by simp) (Nat.zero_le _) hq
       exact toksF_same _ _ s p _ (by omega) (by omega)
      | bad p e => rfl
     ·rename_i h39
      have := headN_ok hh (by omega) (by simpa using h39)
      exact toksF_same _ _ s j _ (by omega) (by omega)
theorem toksN_end {s : ByteArray} {k : Nat} {l : List Tk} (h : s.size ≤ k) : toksN s k l = .ok l := by
 have : s.size - k = 0 := by omega
 simp [toksN, this, toksF]
end Go.Proofs.YtibcpdmeigdgpaaGreatDoor
namespace Go.Proofs.YtibcpdmeigdgpaaGreatDoor
open Go.RowKit
def nxT (tk : List Tk) (sz i : Nat) : Tk := if h : i < tk.length then tk[i] else ⟨0, ⟨#[]⟩, sz, 0⟩
def isM (tk : List Tk) (sz i : Nat) (tx : ByteArray) : Bool := ((nxT tk sz i).k == 5) && ((nxT tk sz i).t.toList == tx.toList)
def wordsF : List UInt8 → List UInt8 → List (List UInt8)
 | acc, [] => [acc]
 | acc, c :: l => if c = 32 then acc :: wordsF [] l else wordsF (acc ++ [c]) l
def inW (nm s : ByteArray) : Bool := (wordsF [] s.data.toList).any fun x => x == nm.data.toList
def iW0 : ByteArray := ⟨#[58, 45]⟩
def iW1 : ByteArray := ⟨#[59]⟩
def iW2 : ByteArray := ⟨#[45, 62]⟩
def iW3 : ByteArray := ⟨#[44]⟩
def iW4 : ByteArray := ⟨#[35, 60, 61, 62]⟩
def iW5 : ByteArray := ⟨#[61, 32, 92, 61, 32, 61, 61, 32, 92, 61, 61, 32, 64, 60, 32, 64, 62, 32, 64, 61, 60, 32, 64, 62, 61, 32, 105, 115, 32, 61, 58, 61, 32, 61, 92, 61, 32, 60, 32, 62, 32, 61, 60, 32, 62, 61, 32, 61, 46, 46, 32, 35, 61, 32, 35, 92, 61, 32, 35, 60, 32, 35, 62, 32, 35, 61, 60, 32, 35, 62, 61, 32, 105, 110]⟩
def iW6 : ByteArray := ⟨#[92, 47]⟩
def iW7 : ByteArray := ⟨#[46, 46]⟩
def iW8 : ByteArray := ⟨#[43, 32, 45]⟩
def iW9 : ByteArray := ⟨#[42, 32, 47, 47, 32, 114, 101, 109, 32, 109, 111, 100, 32, 100, 105, 118]⟩
def iW10 : ByteArray := ⟨#[94]⟩
def pW0 : ByteArray := ⟨#[58, 45]⟩
def pW1 : ByteArray := ⟨#[92, 43]⟩
def pW2 : ByteArray := ⟨#[43, 32, 45]⟩
def opIn (nm : ByteArray) : Option (Int × Int × Int) :=
 if inW nm iW0 then some (1200, 1199, 1199)
 else if inW nm iW1 then some (1100, 1099, 1100)
 else if inW nm iW2 then some (1050, 1049, 1050)
 else if inW nm iW3 then some (1000, 999, 1000)
 else if inW nm iW4 then some (760, 759, 759)
 else if inW nm iW5 then some (700, 699, 699)
 else if inW nm iW6 then some (550, 550, 549)
 else if inW nm iW7 then some (450, 449, 449)
 else if inW nm iW8 then some (500, 500, 499)
 else if inW nm iW9 then some (400, 400, 399)
 else if inW nm iW10 then some (200, 199, 200)
 else none
def opPre (nm : ByteArray) : Option (Int × Int) :=
 if inW nm pW0 then some (1200, 1199)
 else if inW nm pW1 then some (900, 900)
 else if inW nm pW2 then some (200, 200)
 else none
theorem opIn_0 {nm : ByteArray} (h0 : inW nm iW0 = true) : opIn nm = some (1200, 1199, 1199) := by simp [opIn, h0]
theorem opIn_1 {nm : ByteArray} (h0 : inW nm iW0 = false) (h1 : inW nm iW1 = true) : opIn nm = some (1100, 1099, 1100) := by simp [opIn, h0, h1]
theorem opIn_2 {nm : ByteArray} (h0 : inW nm iW0 = false) (h1 : inW nm iW1 = false) (h2 : inW nm iW2 = true) : opIn nm = some (1050, 1049, 1050) := by simp [opIn, h0, h1, h2]
theorem opIn_3 {nm : ByteArray} (h0 : inW nm iW0 = false) (h1 : inW nm iW1 = false) (h2 : inW nm iW2 = false) (h3 : inW nm iW3 = true) : opIn nm = some (1000, 999, 1000) := by simp [opIn, h0, h1, h2, h3]
theorem opIn_4 {nm : ByteArray} (h0 : inW nm iW0 = false) (h1 : inW nm iW1 = false) (h2 : inW nm iW2 = false) (h3 : inW nm iW3 = false) (h4 : inW nm iW4 = true) : opIn nm = some (760, 759, 759) := by simp [opIn, h0, h1, h2, h3, h4]
theorem opIn_5 {nm : ByteArray} (h0 : inW nm iW0 = false) (h1 : inW nm iW1 = false) (h2 : inW nm iW2 = false) (h3 : inW nm iW3 = false) (h4 : inW nm iW4 = false) (h5 : inW nm iW5 = true) : opIn nm = some (700, 699, 699) := by simp [opIn, h0, h1, h2, h3, h4, h5]
theorem opIn_6 {nm : ByteArray} (h0 : inW nm iW0 = false) (h1 : inW nm iW1 = false) (h2 : inW nm iW2 = false) (h3 : inW nm iW3 = false) (h4 : inW nm iW4 = false) (h5 : inW nm iW5 = false) (h6 : inW nm iW6 = true) : opIn nm = some (550, 550, 549) := by simp [opIn, h0, h1, h2, h3, h4, h5, h6]
theorem opIn_7 {nm : ByteArray} (h0 : inW nm iW0 = false) (h1 : inW nm iW1 = false) (h2 : inW nm iW2 = false) (h3 : inW nm iW3 = false) (h4 : inW nm iW4 = false) (h5 : inW nm iW5 = false) (h6 : inW nm iW6 = false) (h7 : inW nm iW7 = true) : opIn nm = some (450, 449, 449) := by simp [opIn, h0, h1, h2, h3, h4, h5, h6, h7]
theorem opIn_8 {nm : ByteArray} (h0 : inW nm iW0 = false) (h1 : inW nm iW1 = false) (h2 : inW nm iW2 = false) (h3 : inW nm iW3 = false) (h4 : inW nm iW4 = false) (h5 : inW nm iW5 = false) (h6 : inW nm iW6 = false) (h7 : inW nm iW7 = false) (h8 : inW nm iW8 = true) : opIn nm = some (500, 500, 499) := by simp [opIn, h0, h1, h2, h3, h4, h5, h6, h7, h8]
theorem opIn_9 {nm : ByteArray} (h0 : inW nm iW0 = false) (h1 : inW nm iW1 = false) (h2 : inW nm iW2 = false) (h3 : inW nm iW3 = false) (h4 : inW nm iW4 = false) (h5 : inW nm iW5 = false) (h6 : inW nm iW6 = false) (h7 : inW nm iW7 = false) (h8 : inW nm iW8 = false) (h9 : inW nm iW9 = true) : opIn nm = some (400, 400, 399) := by simp [opIn, h0, h1, h2, h3, h4, h5, h6, h7, h8, h9]
theorem opIn_10 {nm : ByteArray} (h0 : inW nm iW0 = false) (h1 : inW nm iW1 = false) (h2 : inW nm iW2 = false) (h3 : inW nm iW3 = false) (h4 : inW nm iW4 = false) (h5 : inW nm iW5 = false) (h6 : inW nm iW6 = false) (h7 : inW nm iW7 = false) (h8 : inW nm iW8 = false) (h9 : inW nm iW9 = false) (h10 : inW nm iW10 = true) : opIn nm = some (200, 199, 200) := by simp [opIn, h0, h1, h2, h3, h4, h5, h6, h7, h8, h9, h10]
theorem opIn_11 {nm : ByteArray} (h0 : inW nm iW0 = false) (h1 : inW nm iW1 = false) (h2 : inW nm iW2 = false) (h3 : inW nm iW3 = false) (h4 : inW nm iW4 = false) (h5 : inW nm iW5 = false) (h6 : inW nm iW6 = false) (h7 : inW nm iW7 = false) (h8 : inW nm iW8 = false) (h9 : inW nm iW9 = false) (h10 : inW nm iW10 = false) : opIn nm = none := by simp [opIn, h0, h1, h2, h3, h4, h5, h6, h7, h8, h9, h10]
theorem opPre_0 {nm : ByteArray} (h0 : inW nm pW0 = true) : opPre nm = some (1200, 1199) := by simp [opPre, h0]
theorem opPre_1 {nm : ByteArray} (h0 : inW nm pW0 = false) (h1 : inW nm pW1 = true) : opPre nm = some (900, 900) := by simp [opPre, h0, h1]
theorem opPre_2 {nm : ByteArray} (h0 : inW nm pW0 = false) (h1 : inW nm pW1 = false) (h2 : inW nm pW2 = true) : opPre nm = some (200, 200) := by simp [opPre, h0, h1, h2]
theorem opPre_3 {nm : ByteArray} (h0 : inW nm pW0 = false) (h1 : inW nm pW1 = false) (h2 : inW nm pW2 = false) : opPre nm = none := by simp [opPre, h0, h1, h2]
abbrev PR (α : Type) := Except (Int × Int) (α × Nat × List ByteArray)
def PR.andThen {α β : Type} (r : PR α) (f : α → Nat → List ByteArray → PR β) : PR β := match r with
 | .error e => .error e
 | .ok (t, j, ns) => f t j ns
def Sp {α : Type} (er pl er' pl' : Int) (res : PR α) (x : α × Nat × List ByteArray) : Prop := (er ≠ 0 → er' = er ∧ pl' = pl) ∧ (er = 0 → match res with
 | .ok y => er' = 0 ∧ x = y
 | .error (p, k) => pl' = p ∧ er' = k ∧ k ≠ 0)
theorem Sp.ok {α : Type} (er pl : Int) (x : α × Nat × List ByteArray) : Sp er pl er pl (.ok x) x := ⟨fun _ => ⟨rfl, rfl⟩, fun h => ⟨h, rfl⟩⟩
theorem Sp.bind {α β : Type} {er pl er1 pl1 er2 pl2 : Int} {r : PR α} {x : α × Nat × List ByteArray} {f : α → Nat → List ByteArray → PR β} {y : β × Nat × List ByteArray} (h : Sp er pl er1 pl1 r x) (h2 : Sp er1 pl1 er2 pl2 (f x.1 x.2.1 x.2.2) y) : Sp er pl er2 pl2 (r.andThen f) y := by
 refine ⟨fun hn => ?_, fun h0 => ?_⟩
 ·obtain ⟨e1, e2⟩ := h.1 hn
  obtain ⟨e3, e4⟩ := h2.1 (by rw [e1]; exact hn)
  exact ⟨e3.trans e1, e4.trans e2⟩
 ·have h3 := h.2 h0
  cases r with
  | ok z =>
   obtain ⟨e1, rfl⟩ := h3
   exact h2.2 e1
  | error e =>
   obtain ⟨p, k⟩ := e
   obtain ⟨e1, e2, e3⟩ := h3
   obtain ⟨e4, e5⟩ := h2.1 (by rw [e2]; exact e3)
   exact ⟨e5.trans e1, e4.trans e2, e3⟩
theorem Sp.bindOk {α β : Type} {er pl er1 pl1 : Int} {r : PR α} {x : α × Nat × List ByteArray} (h : Sp er pl er1 pl1 r x) (f : α → β) : Sp er pl er1 pl1 (r.andThen fun t j ns => .ok (f t, j, ns)) (f x.1, x.2.1, x.2.2) := h.bind (Sp.ok _ _ _)
theorem Sp.stays {α : Type} {er pl : Int} (h : er ≠ 0) (r : PR α) (x : α × Nat × List ByteArray) : Sp er pl er pl r x := ⟨fun _ => ⟨rfl, rfl⟩, fun e => absurd e h⟩
theorem Sp.err {α : Type} {pl p k : Int} (h : k ≠ 0) (x : α × Nat × List ByteArray) : Sp 0 pl k p (.error (p, k)) x := ⟨fun e => absurd rfl e, fun _ => ⟨rfl, rfl, h⟩⟩
theorem Sp.any {α β : Type} {er pl er' pl' : Int} {e : Int × Int} {x : α × Nat × List ByteArray} (h : Sp er pl er' pl' (.error e) x) (y : β × Nat × List ByteArray) : Sp er pl er' pl' (.error e) y := h
def twoT (s : ByteArray) (t t' : T) : T := .mk 4 0 s 2 fun i => if i = 0 then t else t'
def oneT (s : ByteArray) (t : T) : T := .mk 4 0 s 1 fun _ => t
def cmpT (s : ByteArray) (l : List T) : T := .mk 4 0 s l.length fun k => l.getD k .nil
def atT (s : ByteArray) : T := .mk 3 0 s 0 fun _ => .nil
def inT (n : Int) : T := .mk 2 n ⟨#[]⟩ 0 fun _ => .nil
def vrT (n : Int) : T := .mk 1 n ⟨#[]⟩ 0 fun _ => .nil
def nilS : ByteArray := ⟨#[91, 93]⟩
def curS : ByteArray := ⟨#[123, 125]⟩
def dotS : ByteArray := ⟨#[46]⟩
def listT (l : List T) (r : T) : T := l.foldr (fun t r => twoT dotS t r) r
def zerosL : List UInt8 → List UInt8
 | [] => []
 | [c] => [c]
 | c :: d :: l => if c = 48 then zerosL (d :: l) else c :: d :: l
def ba (l : List UInt8) : ByteArray := ⟨l.toArray⟩
def digS (n : Int) (c : UInt8) : Int := if 48 ≤ (c.toNat : Int) ∧ (c.toNat : Int) ≤ 57 then (n * 10 + ((c.toNat : Int) - 48)) % 18446744073709551616 else n
def digF (l : List UInt8) (n : Int) : Int := l.foldl digS n
def parseN (s : ByteArray) : Option Int :=
 if s.size < 1 ∨ 20 < s.size then none
 else
  let a := wrap64 (digF s.data.toList 0)
  let b := if bn s 0 = 45 then wrap64 (-a) else a
  if Lib.itoa b = s.data.toList then some b else none
def intN (tx : ByteArray) (below : Bool) : Option Int :=
 parseN (ba (if below = true ∧ zerosL tx.data.toList ≠ [48] then 45 :: zerosL tx.data.toList else zerosL tx.data.toList))
def varI (nm : ByteArray) : List ByteArray → Nat → Option Nat
 | [], _ => none
 | x :: l, i => if x = nm ∧ nm ≠ ⟨#[95]⟩ then some i else varI nm l (i + 1)
def varN (nm : ByteArray) (ns : List ByteArray) : Nat × List ByteArray := match varI nm ns 0 with
 | some i => (i, ns)
 | none => (ns.length, ns ++ [nm])
section
variable (tk : List Tk) (sz : Nat)
def errA (i : Nat) (k : Int) : Int × Int := (((nxT tk sz i).a : Int), k)
def mustN {α : Type} (m : ByteArray) (a : α) (i : Nat) (ns : List ByteArray) : PR α := if isM tk sz i m then .ok (a, i + 1, ns) else .error (errA tk sz i 50)
def rowC (tm : Int → Nat → List ByteArray → PR T) : Nat → List T → Nat → List ByteArray → PR (List T)
 | 0, l, j, ns => .ok (l, j, ns)
 | f + 1, l, j, ns => if isM tk sz j ⟨#[44]⟩ then (tm 999 (j + 1) ns).andThen fun t j' ns' => rowC tm f (l ++ [t]) j' ns' else .ok (l, j, ns)
def rowP (tm : Int → Nat → List ByteArray → PR T) (j : Nat) (ns : List ByteArray) : PR (List T) := (tm 999 j ns).andThen fun t j' ns' => rowC tk sz tm tk.length [t] j' ns'
def listP (tm : Int → Nat → List ByteArray → PR T) (i : Nat) (ns : List ByteArray) : PR T :=
 if isM tk sz i ⟨#[93]⟩ then .ok (atT nilS, i + 1, ns)
 else (rowP tk sz tm i ns).andThen fun l j ns1 => if isM tk sz j ⟨#[124]⟩ then (tm 999 (j + 1) ns1).andThen fun r j2 ns2 => mustN tk sz ⟨#[93]⟩ (listT l r) j2 ns2 else mustN tk sz ⟨#[93]⟩ (listT l (atT nilS)) j ns1
def endsP (i : Nat) : Bool :=
 let t := nxT tk sz i
 if t.k = 0 ∨ t.k = 6 then true
 else if t.k = 5 then t.t.toList == [41] || t.t.toList == [93] || t.t.toList == [125] || t.t.toList == [44] || t.t.toList == [124]
 else if t.k = 1 then (opIn t.t).isSome && !(opPre t.t).isSome
 else false
def intP (x : Tk) (below : Bool) (j : Nat) (ns : List ByteArray) : PR T := match intN x.t below with
 | some n => .ok (inT n, j, ns)
 | none => .error ((x.a : Int), 51)
def namedP (tm : Int → Nat → List ByteArray → PR T) (t : Tk) (most : Int) (i : Nat) (ns : List ByteArray) : PR (T × Int) :=
 let x := nxT tk sz i
 if x.k = 4 then (rowP tk sz tm (i + 1) ns).andThen fun l j ns1 => mustN tk sz ⟨#[41]⟩ (cmpT t.t l, 0) j ns1
 else if t.t.toList = [45] ∧ x.k = 3 ∧ x.a = t.b then (intP x true (i + 1) ns).andThen fun r j ns1 => .ok ((r, 0), j, ns1)
 else match opPre t.t with
  | none => .ok ((atT t.t, 0), i, ns)
  | some (p, m) => if p ≤ most ∧ endsP tk sz i = false then (tm m i ns).andThen (fun r j ns1 => .ok ((oneT t.t r, p), j, ns1)) else .ok ((atT t.t, 0), i, ns)
def operandP (tm : Int → Nat → List ByteArray → PR T) (most : Int) (i : Nat) (ns : List ByteArray) : PR (T × Int) :=
 let t := nxT tk sz i
 if t.k = 3 then (intP t false (i + 1) ns).andThen fun r j ns1 => .ok ((r, 0), j, ns1)
 else if t.k = 2 then .ok ((vrT (varN t.t ns).1, 0), i + 1, (varN t.t ns).2)
 else if t.k = 4 ∨ isM tk sz i ⟨#[40]⟩ = true then (tm 1200 (i + 1) ns).andThen fun r j ns1 => mustN tk sz ⟨#[41]⟩ (r, 0) j ns1
 else if isM tk sz i ⟨#[91]⟩ then (listP tk sz tm (i + 1) ns).andThen fun r j ns1 => .ok ((r, 0), j, ns1)
 else if isM tk sz i ⟨#[123]⟩ then
  if isM tk sz (i + 1) ⟨#[125]⟩ then .ok ((atT curS, 0), i + 2, ns)
  else (tm 1200 (i + 1) ns).andThen fun r j ns1 => mustN tk sz ⟨#[125]⟩ (oneT curS r, 0) j ns1
 else if t.k = 1 then namedP tk sz tm t most (i + 1) ns
 else .error (errA tk sz i 50)
def infixC (tm : Int → Nat → List ByteArray → PR T) (most : Int) : Nat → T → Int → Nat → List ByteArray → PR T
 | 0, t, _, j, ns => .ok (t, j, ns)
 | f + 1, t, prio, j, ns =>
  let x := nxT tk sz j
  if x.k ≠ 1 ∧ isM tk sz j ⟨#[44]⟩ = false then .ok (t, j, ns)
  else match opIn x.t with
   | none => .ok (t, j, ns)
   | some (p, l, r) => if most < p ∨ l < prio then .ok (t, j, ns)
    else (tm r (j + 1) ns).andThen fun t2 j' ns' => infixC tm most f (twoT x.t t t2) p j' ns'
def termP : Nat → Int → Nat → List ByteArray → PR T
 | 0, _, i, _ => .error (errA tk sz i 52)
 | d + 1, most, i, ns => (operandP tk sz (termP d) most i ns).andThen fun x j ns' => infixC tk sz (termP d) most tk.length x.1 x.2 j ns'
def readC : Nat → Nat → List (T × List ByteArray) → Except (Int × Int) (List (T × List ByteArray))
 | 0, _, l => .ok l
 | f + 1, j, l => if j < tk.length then (match termP tk sz 65 1200 j [] with
  | .error e => .error e
  | .ok (t, j', ns) => if (nxT tk sz j').k = 6 then readC f (j' + 1) (l ++ [(t, ns)]) else .error (errA tk sz j' 50)) else .ok l
end
def readN (s : ByteArray) : Except (Int × Int) (List (T × List ByteArray)) := match lexN s with
 | .bad p e => .error ((p : Int), e)
 | .ok l => readC l s.size l.length 0 []
end Go.Proofs.YtibcpdmeigdgpaaGreatDoor
namespace Go.Proofs.YtibcpdmeigdgpaaGreatDoor
inductive OneR where
 | ok (x : Tk)
 | bad (p : Nat) (e : Int)
def oneN (s : ByteArray) (f : Nat) (l : List Tk) : OneR :=
 match headN s f l.getLast? with
 | none => .bad f 30
 | some (K, j) =>
  if l.length = 1000 then .bad f 34
  else if (bn s f : Int) == 39 then
   match quoN s f (f + 1) [] with
   | .ok t p => .ok ⟨K, ⟨t.toArray⟩, f, p⟩
   | .bad p e => .bad p e
  else .ok ⟨K, s.extract f j, f, j⟩
theorem toksN_one {s : ByteArray} {k : Nat} {l : List Tk} (h : k < s.size) : toksN s k l =
 match betN s k with
 | (f, false) => .bad f 31
 | (f, true) => if f = s.size then .ok l else match oneN s f l with
  | .ok x => toksN s x.b (l ++ [x])
  | .bad p e => .bad p e := by
 rw [toksN_eq h]
 unfold oneN
 cases betN s k with
 | mk f ok =>
  cases ok with
  | false => rfl
  | true =>
   dsimp only
   by_cases hf : f = s.size
   ·rw [if_pos hf, if_pos hf]
   ·rw [if_neg hf, if_neg hf]
    cases headN s f l.getLast? with
    | none => rfl
    | some q =>
     obtain ⟨K, j⟩ := q
     dsimp only
     split
     ·rfl
     ·split
      ·cases quoN s f (f + 1) [] <;> rfl
      ·rfl
theorem oneN_ok {s : ByteArray} {f : Nat} {l : List Tk} {x : Tk} (h : oneN s f l = .ok x) (hf : f < s.size) : x.ok s.size ∧ x.a = f ∧ f < x.b ∧ x.b ≤ s.size ∧ l.length ≠ 1000 := by
 unfold oneN at h
 cases hh : headN s f l.getLast? with
 | none => rw [hh] at h; cases h
 | some q =>
  obtain ⟨K, j⟩ := q
  rw [hh] at h
  dsimp only at h
  have hk := headN_kind hh
  split at h
  ·cases h
  ·rename_i hl
   split at h
   ·cases hq : quoN s f (f + 1) [] with
    | ok t p =>
     rw [hq] at h
     injection h with h
     subst h
     have := quoF_ok _ _ _ _ _ _ _ (by simp) (Nat.zero_le _) hq
     refine ⟨⟨hk.1, hk.2, ?_, by show f < p; omega, this.2.1⟩, rfl, by show f < p; omega, this.2.1, hl⟩
     show t.toArray.size ≤ _
     simp
     omega
    | bad p e => rw [hq] at h; cases h
   ·rename_i h39
    injection h with h
    subst h
    have := headN_ok hh hf (by simpa using h39)
    refine ⟨⟨hk.1, hk.2, ?_, this.2.2.1, this.2.2.2⟩, rfl, this.2.2.1, this.2.2.2, hl⟩
    show (s.extract f j).size ≤ _
    rw [ByteArray.size_extract]
    omega
theorem toks_ind {s : ByteArray} (P : Nat → List Tk → Prop) (step : ∀ k l f x, k < s.size → P k l → betN s k = (f, true) → f < s.size → oneN s f l = .ok x → P x.b (l ++ [x])) :
 ∀ (n k : Nat) (l r : List Tk), s.size - k ≤ n → P k l → toksN s k l = .ok r → ∃ k', P k' r ∧ (s.size ≤ k' ∨ betN s k' = (s.size, true))
 | n, k, l, r, hn, hp, h => by
  by_cases hk : k < s.size
  ·rw [toksN_one hk] at h
   have hb := betN_ge (s := s) (j := k) (by omega)
   cases hbe : betN s k with
   | mk f ok =>
    rw [hbe] at h hb
    dsimp only at hb
    cases ok with
    | false => cases h
    | true =>
     dsimp only at h
     by_cases hf : f = s.size
     ·rw [if_pos hf] at h
      injection h with h
      subst h
      exact ⟨k, hp, .inr (by rw [hbe, hf])⟩
     ·rw [if_neg hf] at h
      cases ho : oneN s f l with
      | bad p e => rw [ho] at h; cases h
      | ok x =>
       rw [ho] at h
       have hx := oneN_ok ho (by omega)
       match n, hn with
       | 0, hn => omega
       | n + 1, hn => exact toks_ind P step n x.b _ r (by omega) (step k l f x hk hp hbe (by omega) ho) h
  ·rw [toksN_end (by omega)] at h
   injection h with h
   subst h
   exact ⟨k, hp, .inl (by omega)⟩
theorem lexN_ok {s : ByteArray} {r : List Tk} (h : lexN s = .ok r) : r.length ≤ 1000 ∧ s.size ≤ 4096 ∧ ∀ x ∈ r, x.ok s.size := by
 unfold lexN at h
 split at h
 ·cases h
 ·rename_i hs
  obtain ⟨_, hp, _⟩ := toks_ind (fun _ l => l.length ≤ 1000 ∧ ∀ x ∈ l, x.ok s.size) (fun k l f x _ hp _ hf ho => by
   have hx := oneN_ok ho hf
   refine ⟨by simp; omega, fun y hy => ?_⟩
   rcases List.mem_append.1 hy with h1 | h1
   ·exact hp.2 y h1
   ·simp at h1; subst h1; exact hx.1) s.size 0 [] r (by omega) ⟨by simp, by simp⟩ h
  exact ⟨hp.1, by omega, hp.2⟩
theorem betF_blank : ∀ (n : Nat) (s : ByteArray) (j f : Nat), betF n s j = (f, true) → f < s.size → s.size ≤ j + n → blankB (bn s f) = false
 | 0, s, j, f, h, hf, hn => by unfold betF at h; injection h with h _; omega
 | n + 1, s, j, f, h, hf, hn => by
  unfold betF at h
  by_cases hj : j < s.size
  ·rw [if_pos hj] at h
   split at h
   ·exact betF_blank n s _ f h hf (by omega)
   ·rename_i hb
    split at h
    ·rename_i h37
     have := line_gt hj h37
     exact betF_blank n s _ f h hf (by omega)
    ·split at h
     ·have := endN_ge s (j + 2)
      split at h
      ·exact betF_blank n s _ f h hf (by omega)
      ·injection h with _ h; cases h
     ·injection h with h _
      subst h
      simpa using hb
  ·rw [if_neg hj] at h
   injection h with h _
   omega
theorem betN_blank {s : ByteArray} {j f : Nat} (h : betN s j = (f, true)) (hf : f < s.size) : blankB (bn s f) = false := betF_blank _ s j f h hf (by omega)
end Go.Proofs.YtibcpdmeigdgpaaGreatDoor
namespace Go.Proofs.YtibcpdmeigdgpaaGreatDoor
def nameB (s : ByteArray) : Prop := s.data.toList.all byteB = true
def nameOk (s : ByteArray) : Prop := s.size ≤ 4096 ∧ nameB s
instance (s : ByteArray) : Decidable (nameB s) := inferInstanceAs (Decidable (_ = true))
instance (s : ByteArray) : Decidable (nameOk s) := inferInstanceAs (Decidable (_ ∧ _))
theorem byteB_of {c : UInt8} (h : 32 ≤ c.toNat) (h2 : c.toNat ≤ 126) : byteB c = true := by
 unfold byteB
 rw [decide_eq_true h, decide_eq_true h2]
 simp
theorem runF_all : ∀ (f : Nat) (k : Int) (s : ByteArray) (j i : Nat), j ≤ i → i < runF f k s j → kindB k (bn s i) = true
 | 0, k, s, j, i, h1, h2 => by unfold runF at h2; omega
 | f + 1, k, s, j, i, h1, h2 => by
  unfold runF at h2
  split at h2
  ·rename_i hc
   rcases Nat.eq_or_lt_of_le h1 with h | h
   ·subst h
    exact hc
   ·exact runF_all f k s (j + 1) i (by omega) h2
  ·omega
theorem kind_byte {k : Int} {s : ByteArray} {i : Nat} (h : kindB k (bn s i) = true) : byteB (bu s i) = true := by
 have hb : bn s i = (bu s i).toNat := bn_bu s i
 have key : (32 : Int) ≤ (bn s i : Int) ∧ (bn s i : Int) ≤ 126 := by
  unfold kindB at h
  simp only [Bool.or_eq_true, Bool.and_eq_true, decide_eq_true_eq] at h
  rcases h with (⟨_, h⟩ | ⟨_, h⟩) | ⟨_, h⟩
  ·unfold namedB smallB greatB digitB at h
   simp only [Bool.or_eq_true, Bool.and_eq_true, decide_eq_true_eq] at h
   omega
  ·unfold digitB at h
   simp only [Bool.and_eq_true, decide_eq_true_eq] at h
   omega
  ·have h2 := signB_iff.1 h
   simp only [List.mem_cons, List.not_mem_nil, or_false] at h2
   omega
 exact byteB_of (by omega) (by omega)
theorem headN_bytes {s : ByteArray} {f : Nat} {o : Option Tk} {K : Int} {j : Nat} (h : headN s f o = some (K, j)) (hq : ((bn s f : Int) == 39) = false) : ∀ i, f ≤ i → i < j → byteB (bu s i) = true := by
 have one : (32 : Int) ≤ (bn s f : Int) → (bn s f : Int) ≤ 126 → ∀ i, f ≤ i → i < f + 1 → byteB (bu s i) = true := fun h1 h2 i hi hj => by
  obtain rfl : i = f := by omega
  have hb : bn s i = (bu s i).toNat := bn_bu s i
  exact byteB_of (by omega) (by omega)
 unfold headN at h
 split at h
 ·rename_i hc
  injection h with h; injection h with h1 h2; subst h2
  simp only [Bool.and_eq_true, beq_iff_eq] at hc
  exact one (by omega) (by omega)
 ·split at h
  ·injection h with h; injection h with h1 h2; subst h2
   exact fun i hi hj => kind_byte (runF_all _ 1 s f i hi hj)
  ·split at h
   ·injection h with h; injection h with h1 h2; subst h2
    exact fun i hi hj => kind_byte (runF_all _ 1 s f i hi hj)
   ·split at h
    ·injection h with h; injection h with h1 h2; subst h2
     exact fun i hi hj => kind_byte (runF_all _ 2 s f i hi hj)
    ·split at h
     ·injection h with h; injection h with h1 h2; subst h2
      exact fun i hi hj => kind_byte (runF_all _ 3 s f i hi hj)
     ·split at h
      ·rename_i hc
       injection h with h; injection h with h1 h2; subst h2
       simp only [Bool.or_eq_true, beq_iff_eq] at hc
       exact one (by omega) (by omega)
      ·split at h
       ·rename_i hc
        rw [hc] at hq; cases hq
       ·split at h
        ·rename_i hc
         injection h with h; injection h with h1 h2; subst h2
         unfold markB at hc
         simp only [Bool.or_eq_true, beq_iff_eq] at hc
         exact one (by omega) (by omega)
        ·cases h
theorem extract_bytes {s : ByteArray} {f j : Nat} (hj : j ≤ s.size) (h : ∀ i, f ≤ i → i < j → byteB (bu s i) = true) : nameB (s.extract f j) := by
 unfold nameB
 rw [List.all_eq_true]
 intro c hc
 simp only [ByteArray.data_extract, Array.toList_extract, List.extract] at hc
 obtain ⟨n, hn, rfl⟩ := List.getElem_of_mem hc
 have hn2 : n < j - f := by simp at hn; omega
 have e : ((s.data.toList.drop f).take (j - f))[n] = bu s (f + n) := by
  rw [List.getElem_take, List.getElem_drop]
  unfold bu
  rw [List.getD_eq_getElem?_getD, List.getElem?_eq_getElem (by rw [Array.length_toList]; exact (show f + n < s.size by omega))]
  rfl
 rw [e]
 exact h _ (by omega) (by omega)
theorem oneN_name {s : ByteArray} {f : Nat} {l : List Tk} {x : Tk} (h : oneN s f l = .ok x) (hf : f < s.size) : nameB x.t := by
 have hb := oneN_ok h hf
 unfold oneN at h
 cases hh : headN s f l.getLast? with
 | none => rw [hh] at h; cases h
 | some q =>
  obtain ⟨K, j⟩ := q
  rw [hh] at h
  dsimp only at h
  split at h
  ·cases h
  ·split at h
   ·cases hq : quoN s f (f + 1) [] with
    | ok t p =>
     rw [hq] at h
     injection h with h
     subst h
     have := quoF_ok _ _ _ _ _ _ _ (by simp) (Nat.zero_le _) hq
     unfold nameB
     rw [List.all_eq_true]
     exact fun c hc => this.2.2.2 c (by simpa using hc)
    | bad p e => rw [hq] at h; cases h
   ·rename_i h39
    injection h with h
    subst h
    exact extract_bytes hb.2.2.2.1 (headN_bytes hh (by simpa using h39))
theorem lexN_names {s : ByteArray} {r : List Tk} (h : lexN s = .ok r) : ∀ x ∈ r, nameB x.t := by
 unfold lexN at h
 split at h
 ·cases h
 ·obtain ⟨_, hP, _⟩ := toks_ind (s := s) (fun _ l => ∀ x ∈ l, nameB x.t) (fun k l f x _ hl _ hf ho y hy => by
   rcases List.mem_append.1 hy with hy | hy
   ·exact hl y hy
   ·rw [List.mem_singleton.1 hy]
    exact oneN_name ho hf) (s.size - 0) 0 [] r (Nat.le_refl _) (fun x hx => by cases hx) h
  exact hP
end Go.Proofs.YtibcpdmeigdgpaaGreatDoor
namespace Go.Proofs.YtibcpdmeigdgpaaGreatDoor
open Go.RowKit
theorem dec_small {u : Nat} (h : u < 10) : Lib.decDigits u = [UInt8.ofNat (48 + u)] := by rw [Lib.decDigits, dif_pos h]
theorem dec_big {u : Nat} (h : ¬ u < 10) : Lib.decDigits u = Lib.decDigits (u / 10) ++ [UInt8.ofNat (48 + u % 10)] := by rw [Lib.decDigits, dif_neg h]
theorem digit_nat {d : Nat} (h : d < 10) : (UInt8.ofNat (48 + d)).toNat = 48 + d := by
 rw [UInt8.toNat_ofNat']
 omega
theorem dec_digits : ∀ (u : Nat), ∀ c ∈ Lib.decDigits u, 48 ≤ c.toNat ∧ c.toNat ≤ 57 := by
 intro u
 induction u using Nat.strongRecOn with
 | ind u ih =>
  intro c hc
  by_cases h : u < 10
  ·rw [dec_small h, List.mem_singleton] at hc
   rw [hc, digit_nat h]
   omega
  ·rw [dec_big h, List.mem_append, List.mem_singleton] at hc
   rcases hc with hc | hc
   ·exact ih (u / 10) (by omega) c hc
   ·rw [hc, digit_nat (Nat.mod_lt _ (by omega))]
    have := Nat.mod_lt u (show 10 > 0 by omega)
    omega
theorem dec_ne (u : Nat) : Lib.decDigits u ≠ [] := by
 by_cases h : u < 10
 ·rw [dec_small h]; simp
 ·rw [dec_big h]; simp
theorem dec_len : ∀ (k u : Nat), u < 10 ^ (k + 1) → (Lib.decDigits u).length ≤ k + 1
 | 0, u, h => by rw [dec_small (by simpa using h)]; simp
 | k + 1, u, h => by
  by_cases hu : u < 10
  ·rw [dec_small hu]; simp
  ·rw [dec_big hu, List.length_append]
   have := dec_len k (u / 10) (by rw [Nat.pow_succ] at h; omega)
   simp only [List.length_cons, List.length_nil]
   omega
theorem pu_snoc : ∀ (l : List UInt8) (acc a : Nat) (r : List UInt8), Lib.parseUint10 acc l = .ok a → Lib.parseUint10 acc (l ++ r) = Lib.parseUint10 a r
 | [], acc, a, r, h => by
  simp only [Lib.parseUint10] at h
  injection h with h
  rw [h]; rfl
 | c :: l, acc, a, r, h => by
  rw [List.cons_append]
  simp only [Lib.parseUint10] at h ⊢
  split at h
  ·rename_i h1
   rw [if_pos h1]
   split at h
   ·cases h
   ·rename_i h2
    rw [if_neg h2]
    split at h
    ·cases h
    ·rename_i h3
     rw [if_neg h3]
     exact pu_snoc l _ a r h
  ·cases h
theorem pu_one {a d : Nat} (hd : d < 10) (h : a * 10 + d < 18446744073709551616) : Lib.parseUint10 a [UInt8.ofNat (48 + d)] = .ok (a * 10 + d) := by
 simp only [Lib.parseUint10]
 rw [digit_nat hd, if_pos (by omega), if_neg (by omega), if_neg (by omega)]
 congr 1
 omega
theorem pu_dec : ∀ (u : Nat), u < 18446744073709551616 → Lib.parseUint10 0 (Lib.decDigits u) = .ok u := by
 intro u
 induction u using Nat.strongRecOn with
 | ind u ih =>
  intro hu
  by_cases h : u < 10
  ·rw [dec_small h, pu_one h (by omega)]
   simp
  ·rw [dec_big h, pu_snoc _ _ _ _ (ih (u / 10) (by omega) (by omega)), pu_one (Nat.mod_lt _ (by omega)) (by omega)]
   congr 1
   omega
theorem atoi_itoa {n : Int} (h0 : -9223372036854775808 ≤ n) (h1 : n ≤ 9223372036854775807) : Lib.atoiAll (Lib.itoa n) = .ok n := by
 unfold Lib.itoa
 by_cases h : n < 0
 ·rw [if_pos h, Lib.atoiAll_minus]
  unfold Lib.parseMag
  rw [if_neg (dec_ne _), pu_dec _ (by omega)]
  simp only [Lib.signed]
  rw [if_neg (by omega)]
  congr 1
  omega
 ·rw [if_neg h]
  obtain ⟨c, l, e, h2, h3⟩ : ∃ c l, Lib.decDigits n.toNat = c :: l ∧ 48 ≤ c.toNat ∧ c.toNat ≤ 57 := by
   cases hd : Lib.decDigits n.toNat with
   | nil => exact absurd hd (dec_ne _)
   | cons c l => exact ⟨c, l, rfl, dec_digits n.toNat c (by rw [hd]; exact List.mem_cons_self)⟩
  have hp : Lib.parseMag (c :: l) = .ok n.toNat := by
   rw [← e]
   unfold Lib.parseMag
   rw [if_neg (dec_ne _)]
   exact pu_dec _ (by omega)
  rw [e, Lib.atoiAll_plain c l (by omega) (by omega), hp]
  simp only [Lib.signless]
  rw [if_neg (by omega)]
  congr 1
  omega
theorem digF_app (l r : List UInt8) (n : Int) : digF (l ++ r) n = digF r (digF l n) := by simp [digF]
theorem digS_one {a d : Nat} (hd : d < 10) (h : a * 10 + d < 18446744073709551616) : digS (a : Int) (UInt8.ofNat (48 + d)) = ((a * 10 + d : Nat) : Int) := by
 unfold digS
 rw [digit_nat hd, if_pos (by omega)]
 omega
theorem digF_dec : ∀ (u : Nat), u < 18446744073709551616 → digF (Lib.decDigits u) 0 = (u : Int) := by
 intro u
 induction u using Nat.strongRecOn with
 | ind u ih =>
  intro hu
  by_cases h : u < 10
  ·rw [dec_small h]
   have := digS_one (a := 0) h (by omega)
   simpa [digF] using this
  ·rw [dec_big h, digF_app, ih (u / 10) (by omega) (by omega)]
   have := digS_one (a := u / 10) (d := u % 10) (Nat.mod_lt _ (by omega)) (by omega)
   simp only [digF, List.foldl_cons, List.foldl_nil]
   rw [this]
   omega
theorem parse_itoa {s : ByteArray} {n : Int} (hs : s.data.toList = Lib.itoa n) (h0 : -9223372036854775808 ≤ n) (h1 : n ≤ 9223372036854775807) : parseN s = some n := by
 have hl : s.data.toList.length = s.size := Array.length_toList
 have key : ∀ (b : Int), b = n → (if Lib.itoa b = s.data.toList then some b else none) = some n := fun b e => by rw [e, if_pos hs.symm]
 unfold parseN
 by_cases h : n < 0
 ·have e : s.data.toList = 45 :: Lib.decDigits n.natAbs := by rw [hs, Lib.itoa, if_pos h]
  have h2 := dec_len 18 n.natAbs (by omega)
  rw [e] at hl
  simp only [List.length_cons] at hl
  have hb : bn s 0 = 45 := by unfold bn; rw [e]; rfl
  have hd : digF s.data.toList 0 = (n.natAbs : Int) := by
   rw [e]
   show digF (Lib.decDigits n.natAbs) (digS 0 45) = _
   rw [show digS 0 45 = 0 from rfl]
   exact digF_dec _ (by omega)
  have hv : (if bn s 0 = 45 then wrap64 (-wrap64 (digF s.data.toList 0)) else wrap64 (digF s.data.toList 0)) = n := by
   rw [if_pos hb, hd]
   unfold wrap64
   omega
  rw [if_neg (by omega)]
  dsimp only
  rw [hv]
  exact key _ rfl
 ·have e : s.data.toList = Lib.decDigits n.toNat := by rw [hs, Lib.itoa, if_neg h]
  have h2 := dec_len 18 n.toNat (by omega)
  obtain ⟨c, l, e2, h3, h4⟩ : ∃ c l, Lib.decDigits n.toNat = c :: l ∧ 48 ≤ c.toNat ∧ c.toNat ≤ 57 := by
   cases hd : Lib.decDigits n.toNat with
   | nil => exact absurd hd (dec_ne _)
   | cons c l => exact ⟨c, l, rfl, dec_digits n.toNat c (by rw [hd]; exact List.mem_cons_self)⟩
  rw [e] at hl
  have h5 : 0 < (Lib.decDigits n.toNat).length := by rw [e2]; simp
  have hb : bn s 0 = c.toNat := by unfold bn; rw [e, e2]; rfl
  have hd : digF s.data.toList 0 = (n.toNat : Int) := by rw [e]; exact digF_dec _ (by omega)
  have hv : (if bn s 0 = 45 then wrap64 (-wrap64 (digF s.data.toList 0)) else wrap64 (digF s.data.toList 0)) = n := by
   rw [if_neg (by omega), hd]
   unfold wrap64
   omega
  rw [if_neg (by omega)]
  dsimp only
  rw [hv]
  exact key _ rfl
theorem parse_some {s : ByteArray} {n : Int} (h : parseN s = some n) : Lib.itoa n = s.data.toList ∧ -9223372036854775808 ≤ n ∧ n ≤ 9223372036854775807 := by
 have one : ∀ b : Int, (if Lib.itoa b = s.data.toList then some b else none) = some n → Lib.itoa n = s.data.toList ∧ b = n := fun b hb => by
  split at hb
  ·rename_i he
   injection hb with hb
   exact ⟨hb ▸ he, hb⟩
  ·cases hb
 unfold parseN at h
 split at h
 ·cases h
 ·obtain ⟨h1, h2⟩ := one _ h
  refine ⟨h1, ?_⟩
  rw [← h2]
  unfold wrap64
  split <;> omega
theorem parse_not {s : ByteArray} (h : ∀ n : Int, -9223372036854775808 ≤ n → n ≤ 9223372036854775807 → Lib.itoa n ≠ s.data.toList) : parseN s = none := by
 cases hp : parseN s with
 | none => rfl
 | some n => exact absurd (parse_some hp).1 (h n (parse_some hp).2.1 (parse_some hp).2.2)
end Go.Proofs.YtibcpdmeigdgpaaGreatDoor
