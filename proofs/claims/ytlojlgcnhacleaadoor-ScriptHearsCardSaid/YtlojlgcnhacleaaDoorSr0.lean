/- Scripts, plain: a text's lines; what they say; a script's text; no program in sight. -/
import Derived.Test.YtlojlgcnhacleaaDoorGb
namespace Go.Proofs.YtlojlgcnhacleaaDoor
open Go.RowKit

/-- A text's first line, and what stands behind its feed. -/
def cutL : List UInt8 → List UInt8 × List UInt8
  | [] => ([], [])
  | c :: l => if c = 10 then ([], l) else (c :: (cutL l).1, (cutL l).2)
def linesF : Nat → List UInt8 → List (List UInt8)
  | 0, _ => []
  | _ + 1, [] => []
  | f + 1, c :: l => (cutL (c :: l)).1 :: linesF f (cutL (c :: l)).2
def linesL (s : List UInt8) : List (List UInt8) := linesF s.length s
theorem cutL_lt : ∀ (c : UInt8) (l : List UInt8), (cutL (c :: l)).2.length ≤ l.length
  | c, [] => by unfold cutL; split <;> simp [cutL]
  | c, d :: l => by
    unfold cutL
    split
    · simp
    · have := cutL_lt d l
      simp only [List.length_cons]
      omega
theorem linesF_more : ∀ (f g : Nat) (s : List UInt8), s.length ≤ f → s.length ≤ g → linesF f s = linesF g s
  | 0, 0, _, _, _ => rfl
  | 0, g + 1, s, h, _ => by
    obtain rfl : s = [] := List.eq_nil_of_length_eq_zero (by omega)
    rfl
  | f + 1, 0, s, _, h => by
    obtain rfl : s = [] := List.eq_nil_of_length_eq_zero (by omega)
    rfl
  | f + 1, g + 1, [], _, _ => rfl
  | f + 1, g + 1, c :: l, h1, h2 => by
    have := cutL_lt c l
    simp only [List.length_cons] at h1 h2
    simp only [linesF]
    rw [linesF_more f g _ (by omega) (by omega)]
theorem lines_nil : linesL [] = [] := rfl
theorem lines_cons (c : UInt8) (l : List UInt8) : linesL (c :: l) = (cutL (c :: l)).1 :: linesL (cutL (c :: l)).2 := by
  have := cutL_lt c l
  unfold linesL
  simp only [List.length_cons, linesF]
  rw [linesF_more l.length _ _ (by omega) (Nat.le_refl _)]
theorem cut_feed : ∀ {x : List UInt8} (y : List UInt8), (∀ c ∈ x, c ≠ 10) → cutL (x ++ 10 :: y) = (x, y)
  | [], y, _ => by simp [cutL]
  | c :: x, y, h => by
    have h1 := h c List.mem_cons_self
    rw [List.cons_append, cutL, if_neg h1, cut_feed y fun d hd => h d (List.mem_cons_of_mem _ hd)]
theorem lines_feed {x : List UInt8} (y : List UInt8) (h : ∀ c ∈ x, c ≠ 10) : linesL (x ++ 10 :: y) = x :: linesL y := by
  have e := cut_feed y h
  cases hx : x ++ 10 :: y with
  | nil => simp at hx
  | cons c l => rw [lines_cons, ← hx, e]
/-- Lines without a feed, each with one behind it, then some text. -/
def joinL (ls : List (List UInt8)) : List UInt8 := ls.flatMap fun l => l ++ [10]
theorem joinL_cons (x : List UInt8) (ls : List (List UInt8)) : joinL (x :: ls) = x ++ 10 :: joinL ls := by simp [joinL]
theorem joinL_app (a b : List (List UInt8)) : joinL (a ++ b) = joinL a ++ joinL b := by simp [joinL]
theorem lines_join : ∀ (ls : List (List UInt8)) (y : List UInt8), (∀ l ∈ ls, ∀ c ∈ l, c ≠ 10) → linesL (joinL ls ++ y) = ls ++ linesL y
  | [], y, _ => rfl
  | x :: ls, y, h => by
    rw [joinL_cons, List.append_assoc, List.cons_append, lines_feed _ (h x List.mem_cons_self), lines_join ls y fun l hl => h l (List.mem_cons_of_mem _ hl)]
    rfl
theorem cut_no : ∀ (s : List UInt8), ∀ c ∈ (cutL s).1, c ≠ 10
  | [], c, h => by cases h
  | d :: l, c, h => by
    unfold cutL at h
    split at h
    · cases h
    · rename_i hd
      rcases List.mem_cons.1 h with rfl | h
      · exact hd
      · exact cut_no l c h
theorem linesF_no : ∀ (f : Nat) (s : List UInt8), ∀ l ∈ linesF f s, ∀ c ∈ l, c ≠ 10
  | 0, _, l, h => by cases h
  | f + 1, [], l, h => by cases h
  | f + 1, d :: s, l, h => by
    rcases List.mem_cons.1 h with rfl | h
    · exact cut_no _
    · exact linesF_no f _ l h
theorem lines_no (s : List UInt8) : ∀ l ∈ linesL s, ∀ c ∈ l, c ≠ 10 := linesF_no _ _
/-- Does a text end with a feed, or is it empty? -/
def endsF (s : List UInt8) : Bool := s.isEmpty || s.getLast? == some 10
theorem cut_back : ∀ {s : List UInt8}, s ≠ [] → s.getLast? = some 10 → (cutL s).1 ++ 10 :: (cutL s).2 = s ∧ ((cutL s).2 = [] ∨ (cutL s).2.getLast? = some 10)
  | [], h, _ => absurd rfl h
  | [c], _, hl => by
    have hc : c = 10 := by simpa using hl
    subst hc
    exact ⟨rfl, .inl rfl⟩
  | c :: d :: l, _, hl => by
    have hl' : (d :: l).getLast? = some 10 := by rw [List.getLast?_cons_cons] at hl; exact hl
    unfold cutL
    split
    · rename_i hc
      subst hc
      exact ⟨rfl, .inr hl'⟩
    · have := cut_back (s := d :: l) (by simp) hl'
      exact ⟨by rw [List.cons_append, this.1], this.2⟩
theorem join_lines : ∀ (f : Nat) (s : List UInt8), s.length ≤ f → (s = [] ∨ s.getLast? = some 10) → joinL (linesL s) = s
  | 0, s, h, _ => by
    obtain rfl : s = [] := List.eq_nil_of_length_eq_zero (by omega)
    rfl
  | f + 1, [], _, _ => rfl
  | f + 1, c :: l, h, he => by
    have he : (c :: l).getLast? = some 10 := he.resolve_left (by simp)
    have hb := cut_back (s := c :: l) (by simp) he
    have hl := cutL_lt c l
    simp only [List.length_cons] at h
    rw [lines_cons, joinL_cons, join_lines f _ (by omega) hb.2]
    exact hb.1
/-- What stands behind a beginning. -/
def behL (w l : List UInt8) : Option (List UInt8) := if l.take w.length = w then some (l.drop w.length) else none
theorem behL_app (w l : List UInt8) : behL w (w ++ l) = some l := by
  unfold behL
  rw [List.take_left, if_pos rfl, List.drop_left]
theorem behL_some {w l r : List UInt8} (h : behL w l = some r) : l = w ++ r := by
  unfold behL at h
  split at h
  · rename_i hw
    injection h with h
    rw [← h]
    conv => lhs; rw [← List.take_append_drop w.length l]
    rw [hw]
  · cases h
/-- The words: a program's line, the query's, the limits'. -/
def barW : List UInt8 := [124, 32]
def askW : List UInt8 := [63, 32]
def wordL : Nat → List UInt8
  | 0 => [102, 117, 101, 108, 32]
  | 1 => [114, 111, 111, 109, 32]
  | 2 => [115, 116, 97, 99, 107, 32]
  | _ => [97, 110, 115, 119, 101, 114, 115, 32]
/-- What was said so far. -/
structure SS where
  prog : List UInt8
  query : List UInt8
  lim : Nat → Int
  sq : Bool
  sl : Nat → Bool
def lim0 : Nat → Int
  | 0 => 1000
  | 1 => 500
  | 2 => 100
  | _ => 10
def SS.start : SS := ⟨[], [], lim0, false, fun _ => false⟩
/-- The word that a line begins with. -/
def wordOf (l : List UInt8) : Option (Nat × List UInt8) :=
  match behL (wordL 0) l with
  | some r => some (0, r)
  | none => match behL (wordL 1) l with
    | some r => some (1, r)
    | none => match behL (wordL 2) l with
      | some r => some (2, r)
      | none => match behL (wordL 3) l with
        | some r => some (3, r)
        | none => none
def setF {α : Type} (f : Nat → α) (k : Nat) (x : α) : Nat → α := fun i => if i = k then x else f i
/-- What a line says: behind it; or the error. -/
def sayL (st : SS) (l : List UInt8) : Except Int SS :=
  if l = [] ∨ l.head? = some 35 then .ok st
  else match behL barW l with
    | some p => .ok { st with prog := st.prog ++ p ++ [10] }
    | none => match behL askW l with
      | some q => if st.sq then .error 34 else .ok { st with query := q, sq := true }
      | none => match wordOf l with
        | none => .error 220
        | some (k, r) => match parseN (ba r) with
          | none => .error 12
          | some v => if st.sl k then .error 34 else .ok { st with lim := setF st.lim k v, sl := setF st.sl k true }
def sayAll : List (List UInt8) → Nat → SS → Except (Nat × Int) SS
  | [], _, st => .ok st
  | l :: ls, n, st => match sayL st l with
    | .error e => .error (n, e)
    | .ok st' => sayAll ls (n + 1) st'
/-- May limits be? -/
def limOk (f : Nat → Int) : Bool := decide (1 ≤ f 0 ∧ f 0 ≤ 100000 ∧ 1 ≤ f 1 ∧ f 1 ≤ 1000 ∧ 1 ≤ f 2 ∧ f 2 ≤ 1000 ∧ 1 ≤ f 3 ∧ f 3 ≤ 100)
/-- A text's script, or its line and error. -/
def scriptN (s : List UInt8) : Except (Nat × Int) SS := match sayAll (linesL s) 1 SS.start with
  | .error e => .error e
  | .ok st => if st.sq = false then .error (0, 50) else if limOk st.lim = false then .error (0, 1) else .ok st
/-- A script's text. -/
def limLine (f : Nat → Int) (k : Nat) : List UInt8 := wordL k ++ Lib.itoa (f k)
def scriptLines (p q : List UInt8) (f : Nat → Int) : List (List UInt8) := [limLine f 0, limLine f 1, limLine f 2, limLine f 3] ++ (linesL p).map (fun l => barW ++ l) ++ [askW ++ q]
def printN (p q : List UInt8) (f : Nat → Int) : Except Int (List UInt8) :=
  if limOk f = false then .error 1
  else if (10 ∈ q) ∨ ¬ (p = [] ∨ p.getLast? = some 10) then .error 220
  else .ok (joinL (scriptLines p q f))
end Go.Proofs.YtlojlgcnhacleaaDoor
