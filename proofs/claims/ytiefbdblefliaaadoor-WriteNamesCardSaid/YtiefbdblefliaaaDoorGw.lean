/- Terms' texts, plain: what is written; what tokens it has; no program in sight. Terms' texts, plain: a term's text, ahead of something that ends it, has the term's tokens. Terms' texts, plain: the tokens of a term's text are read as the term, its variables numbered; or it stands too deep. -/
import Derived.Test.YtiefbdblefliaaaDoorGb
import Derived.Test.YtiefbdblefliaaaDoorGe
namespace Go.Proofs.YtiefbdblefliaaaDoor
open Go.RowKit

/-- A variable's text: its name, where it has one. -/
def nmV (nm : List ByteArray) (n : Int) : List UInt8 := match nm[n.toNat]? with
  | some s => if s.size = 0 ∨ s = ⟨#[95]⟩ then 95 :: Lib.itoa n else s.data.toList
  | none => 95 :: Lib.itoa n
/-- Arguments from the j-th one on, each behind a comma. -/
def restB (f : Nat → List UInt8) : Nat → Nat → List UInt8
  | _, 0 => []
  | j, r + 1 => 44 :: (f j ++ restB f (j + 1) r)
theorem restB_snoc (f : Nat → List UInt8) : ∀ (r j : Nat), restB f j (r + 1) = restB f j r ++ 44 :: f (j + r)
  | 0, j => by simp [restB]
  | r + 1, j => by
    rw [restB, restB_snoc f r (j + 1)]
    simp only [restB, List.cons_append, List.append_assoc]
    rw [show j + 1 + r = j + (r + 1) from by omega]
/-- The text of a term; and of what stands behind an element of a list. -/
def txB (V : Int → List UInt8) : T → List UInt8 × List UInt8
  | .nil => ([], [])
  | .mk k n s m a =>
    let t := if k = 1 then V n else if k = 2 then Lib.itoa n
      else if k = 3 then (if s = nilS ∨ s = curS then s.data.toList else (quoteN s).data.toList)
      else if s = dotS ∧ m = 2 then 91 :: ((txB V (a 0)).1 ++ ((txB V (a 1)).2 ++ [93]))
      else (quoteN s).data.toList ++ 40 :: ((txB V (a 0)).1 ++ (restB (fun i => (txB V (a i)).1) 1 (m - 1) ++ [41]))
    (t, if k = 4 ∧ s = dotS ∧ m = 2 then 44 :: ((txB V (a 0)).1 ++ (txB V (a 1)).2) else if k = 3 ∧ s = nilS then [] else 124 :: t)
def txT (V : Int → List UInt8) (t : T) : List UInt8 := (txB V t).1
/-- A term that can be written. -/
def T.wr : T → Prop
  | .nil => False
  | .mk k n s m a => (k = 1 ∧ 0 ≤ n) ∨ (k = 2 ∧ -9223372036854775808 ≤ n ∧ n ≤ 9223372036854775807) ∨ (k = 3 ∧ (quoteN s).size ≠ 0) ∨ (k = 4 ∧ (quoteN s).size ≠ 0 ∧ 0 < m ∧ ∀ i, i < m → (a i).wr)
section
variable (V : Int → List UInt8)
theorem tx_var (n : Int) (s : ByteArray) (m : Nat) (a : Nat → T) : txB V (.mk 1 n s m a) = (V n, 124 :: V n) := by
  rw [txB]; simp
theorem tx_int (n : Int) (s : ByteArray) (m : Nat) (a : Nat → T) : txB V (.mk 2 n s m a) = (Lib.itoa n, 124 :: Lib.itoa n) := by
  rw [txB]; simp
theorem tx_nil (n : Int) (m : Nat) (a : Nat → T) : txB V (.mk 3 n nilS m a) = ([91, 93], []) := by
  rw [txB]; simp [nilS]
theorem tx_cur (n : Int) (m : Nat) (a : Nat → T) : txB V (.mk 3 n curS m a) = ([123, 125], [124, 123, 125]) := by
  rw [txB]
  simp only [show ¬ ((3 : Int) = 1) by decide, show ¬ ((3 : Int) = 2) by decide, if_false, if_true, or_true, show ¬ ((3 : Int) = 4 ∧ curS = dotS ∧ m = 2) by intro h; exact absurd h.1 (by decide)]
  rfl
theorem tx_atom {s : ByteArray} (h1 : s ≠ nilS) (h2 : s ≠ curS) (n : Int) (m : Nat) (a : Nat → T) : txB V (.mk 3 n s m a) = ((quoteN s).data.toList, 124 :: (quoteN s).data.toList) := by
  rw [txB]; simp [h1, h2]
theorem tx_pair (n : Int) (a : Nat → T) : txB V (.mk 4 n dotS 2 a) = (91 :: ((txB V (a 0)).1 ++ ((txB V (a 1)).2 ++ [93])), 44 :: ((txB V (a 0)).1 ++ (txB V (a 1)).2)) := by
  rw [txB]; simp
theorem tx_cmp {s : ByteArray} {m : Nat} (h : ¬ (s = dotS ∧ m = 2)) (n : Int) (a : Nat → T) :
    txB V (.mk 4 n s m a) = ((quoteN s).data.toList ++ 40 :: ((txB V (a 0)).1 ++ (restB (fun i => (txB V (a i)).1) 1 (m - 1) ++ [41])), 124 :: ((quoteN s).data.toList ++ 40 :: ((txB V (a 0)).1 ++ (restB (fun i => (txB V (a i)).1) 1 (m - 1) ++ [41])))) := by
  rw [txB]
  simp only [show ¬ ((4 : Int) = 1) by decide, show ¬ ((4 : Int) = 2) by decide, show ¬ ((4 : Int) = 3) by decide, if_false, if_neg h, false_and, true_and]
end
/-- A mark. -/
def Mk (x : Tk) (c : UInt8) : Prop := x.k = 5 ∧ x.t = ba [c]
def restTk (f : Nat → List Tk → Prop) : Nat → Nat → List Tk → Prop
  | _, 0, l => l = []
  | j, r + 1, l => ∃ c l0 l1, l = c :: (l0 ++ l1) ∧ Mk c 44 ∧ f j l0 ∧ restTk f (j + 1) r l1
/-- The tokens of a term's text; and of what stands behind an element of a list. -/
def tkB (V : Int → List UInt8) : T → (List Tk → Prop) × (List Tk → Prop)
  | .nil => (fun _ => False, fun _ => False)
  | .mk k n s m a =>
    let h : List Tk → Prop :=
      if k = 1 then fun l => ∃ x, l = [x] ∧ x.k = 2 ∧ x.t = ba (V n)
      else if k = 2 then (if n < 0 then fun l => ∃ x y, l = [x, y] ∧ x.k = 1 ∧ x.t = ba [45] ∧ y.k = 3 ∧ y.t = ba (Lib.decDigits n.natAbs) ∧ y.a = x.b else fun l => ∃ x, l = [x] ∧ x.k = 3 ∧ x.t = ba (Lib.itoa n))
      else if k = 3 then (if s = nilS then fun l => ∃ x y, l = [x, y] ∧ Mk x 91 ∧ Mk y 93 else if s = curS then fun l => ∃ x y, l = [x, y] ∧ Mk x 123 ∧ Mk y 125 else fun l => ∃ x, l = [x] ∧ x.k = 1 ∧ x.t = s)
      else if s = dotS ∧ m = 2 then fun l => ∃ x y l0 l1, l = x :: (l0 ++ (l1 ++ [y])) ∧ Mk x 91 ∧ Mk y 93 ∧ (tkB V (a 0)).1 l0 ∧ (tkB V (a 1)).2 l1
      else fun l => ∃ x y z l0 l1, l = x :: y :: (l0 ++ (l1 ++ [z])) ∧ x.k = 1 ∧ x.t = s ∧ y.k = 4 ∧ Mk z 41 ∧ (tkB V (a 0)).1 l0 ∧ restTk (fun i => (tkB V (a i)).1) 1 (m - 1) l1
    (h, if k = 4 ∧ s = dotS ∧ m = 2 then fun l => ∃ c l0 l1, l = c :: (l0 ++ l1) ∧ Mk c 44 ∧ (tkB V (a 0)).1 l0 ∧ (tkB V (a 1)).2 l1
      else if k = 3 ∧ s = nilS then fun l => l = [] else fun l => ∃ c l0, l = c :: l0 ∧ Mk c 124 ∧ h l0)
section
variable (V : Int → List UInt8)
theorem tk_var (n : Int) (s : ByteArray) (m : Nat) (a : Nat → T) (l : List Tk) : (tkB V (.mk 1 n s m a)).1 l = ∃ x, l = [x] ∧ x.k = 2 ∧ x.t = ba (V n) := by
  rw [tkB]; simp
theorem tk_neg {n : Int} (h : n < 0) (s : ByteArray) (m : Nat) (a : Nat → T) (l : List Tk) : (tkB V (.mk 2 n s m a)).1 l = ∃ x y, l = [x, y] ∧ x.k = 1 ∧ x.t = ba [45] ∧ y.k = 3 ∧ y.t = ba (Lib.decDigits n.natAbs) ∧ y.a = x.b := by
  rw [tkB]; simp [h]
theorem tk_pos {n : Int} (h : ¬ n < 0) (s : ByteArray) (m : Nat) (a : Nat → T) (l : List Tk) : (tkB V (.mk 2 n s m a)).1 l = ∃ x, l = [x] ∧ x.k = 3 ∧ x.t = ba (Lib.itoa n) := by
  rw [tkB]; simp [h]
theorem tk_nil (n : Int) (m : Nat) (a : Nat → T) (l : List Tk) : (tkB V (.mk 3 n nilS m a)).1 l = ∃ x y, l = [x, y] ∧ Mk x 91 ∧ Mk y 93 := by
  rw [tkB]; simp
theorem tk_cur (n : Int) (m : Nat) (a : Nat → T) (l : List Tk) : (tkB V (.mk 3 n curS m a)).1 l = ∃ x y, l = [x, y] ∧ Mk x 123 ∧ Mk y 125 := by
  rw [tkB]; simp [show ¬ (curS = nilS) by decide]
theorem tk_atom {s : ByteArray} (h1 : s ≠ nilS) (h2 : s ≠ curS) (n : Int) (m : Nat) (a : Nat → T) (l : List Tk) : (tkB V (.mk 3 n s m a)).1 l = ∃ x, l = [x] ∧ x.k = 1 ∧ x.t = s := by
  rw [tkB]; simp [h1, h2]
theorem tk_pair (n : Int) (a : Nat → T) (l : List Tk) : (tkB V (.mk 4 n dotS 2 a)).1 l = ∃ x y l0 l1, l = x :: (l0 ++ (l1 ++ [y])) ∧ Mk x 91 ∧ Mk y 93 ∧ (tkB V (a 0)).1 l0 ∧ (tkB V (a 1)).2 l1 := by
  rw [tkB]; simp
theorem tk_cmp {s : ByteArray} {m : Nat} (h : ¬ (s = dotS ∧ m = 2)) (n : Int) (a : Nat → T) (l : List Tk) : (tkB V (.mk 4 n s m a)).1 l = ∃ x y z l0 l1, l = x :: y :: (l0 ++ (l1 ++ [z])) ∧ x.k = 1 ∧ x.t = s ∧ y.k = 4 ∧ Mk z 41 ∧ (tkB V (a 0)).1 l0 ∧ restTk (fun i => (tkB V (a i)).1) 1 (m - 1) l1 := by
  rw [tkB]
  simp only [show ¬ ((4 : Int) = 1) by decide, show ¬ ((4 : Int) = 2) by decide, show ¬ ((4 : Int) = 3) by decide, if_false, if_neg h]
theorem tl_pair (n : Int) (a : Nat → T) (l : List Tk) : (tkB V (.mk 4 n dotS 2 a)).2 l = ∃ c l0 l1, l = c :: (l0 ++ l1) ∧ Mk c 44 ∧ (tkB V (a 0)).1 l0 ∧ (tkB V (a 1)).2 l1 := by
  rw [tkB]; simp
theorem tl_nil (n : Int) (m : Nat) (a : Nat → T) (l : List Tk) : (tkB V (.mk 3 n nilS m a)).2 l = (l = []) := by
  rw [tkB]; simp
theorem tl_else {k : Int} {s : ByteArray} {m : Nat} (h1 : ¬ (k = 4 ∧ s = dotS ∧ m = 2)) (h2 : ¬ (k = 3 ∧ s = nilS)) (n : Int) (a : Nat → T) (l : List Tk) : (tkB V (.mk k n s m a)).2 l = ∃ c l0, l = c :: l0 ∧ Mk c 124 ∧ (tkB V (.mk k n s m a)).1 l0 := by
  rw [tkB]
  simp only [if_neg h1, if_neg h2]
theorem txt_else {k : Int} {s : ByteArray} {m : Nat} (h1 : ¬ (k = 4 ∧ s = dotS ∧ m = 2)) (h2 : ¬ (k = 3 ∧ s = nilS)) (n : Int) (a : Nat → T) : (txB V (.mk k n s m a)).2 = 124 :: (txB V (.mk k n s m a)).1 := by
  rw [txB]
  simp only [if_neg h1, if_neg h2]
end
end Go.Proofs.YtiefbdblefliaaaDoor
namespace Go.Proofs.YtiefbdblefliaaaDoor
open Go.RowKit

/-- What stands behind a token goes on with no run of bytes. -/
def stopK (K : Int) (R : List UInt8) : Prop := R = [] ∨ ∃ c r, R = c :: r ∧ kindB K c.toNat = false
/-- A byte that ends whatever token. -/
def stopC (c : UInt8) : Bool := !(kindB 1 c.toNat) && !(kindB 2 c.toNat) && !(kindB 3 c.toNat) && !(c == 39)
def stopR (R : List UInt8) : Prop := R = [] ∨ ∃ c r, R = c :: r ∧ stopC c = true
theorem stopR.k {R : List UInt8} (h : stopR R) {K : Int} (hK : K = 1 ∨ K = 2 ∨ K = 3) : stopK K R := by
  rcases h with h | ⟨c, r, h, hc⟩
  · exact .inl h
  · refine .inr ⟨c, r, h, ?_⟩
    simp only [stopC, Bool.and_eq_true, Bool.not_eq_true'] at hc
    rcases hK with rfl | rfl | rfl
    · exact hc.1.1.1
    · exact hc.1.1.2
    · exact hc.1.2
theorem stopR_of {c : UInt8} (r : List UInt8) (h : stopC c = true) : stopR (c :: r) := .inr ⟨c, r, rfl, h⟩
theorem bu_drop {u : ByteArray} {p : Nat} {L : List UInt8} (h : u.data.toList.drop p = L) (i : Nat) : bu u (p + i) = L.getD i 0 := by
  unfold bu
  rw [← h]
  simp [List.getD_eq_getElem?_getD, List.getElem?_drop]
theorem bu_here {u : ByteArray} {p : Nat} {c : UInt8} {L : List UInt8} (h : u.data.toList.drop p = c :: L) : bu u p = c := bu_drop h 0
theorem bn_here {u : ByteArray} {p : Nat} {c : UInt8} {L : List UInt8} (h : u.data.toList.drop p = c :: L) : (bn u p : Int) = (c.toNat : Int) := by rw [bn_bu, bu_here h]
theorem len_u (u : ByteArray) : u.data.toList.length = u.size := Array.length_toList
theorem drop_lt {u : ByteArray} {p : Nat} {L : List UInt8} (h : u.data.toList.drop p = L) (hL : L ≠ []) : p < u.size := by
  have := len_u u
  rcases Nat.lt_or_ge p u.size with h1 | h1
  · exact h1
  · rw [List.drop_eq_nil_of_le (by omega)] at h
    exact absurd h.symm hL
theorem drop_more {u : ByteArray} {p : Nat} {A B : List UInt8} (h : u.data.toList.drop p = A ++ B) : u.data.toList.drop (p + A.length) = B := by
  rw [← List.drop_drop, h, List.drop_left]
theorem drop_le {u : ByteArray} {p : Nat} {A B : List UInt8} (h : u.data.toList.drop p = A ++ B) (hA : A ≠ []) : p + A.length ≤ u.size := by
  have h1 : (u.data.toList.drop p).length = A.length + B.length := by rw [h, List.length_append]
  have h2 := drop_lt h (by cases A with | nil => exact absurd rfl hA | cons c A => simp)
  rw [List.length_drop, len_u] at h1
  omega
theorem run_word {K : Int} {u : ByteArray} : ∀ (W : List UInt8) (p : Nat) (R : List UInt8), u.data.toList.drop p = W ++ R → (∀ c ∈ W, kindB K c.toNat = true) → stopK K R → runN K u p = p + W.length
  | [], p, R, h, _, hR => by
    rcases hR with rfl | ⟨c, r, rfl, hc⟩
    · have := len_u u
      have h2 : (u.data.toList.drop p).length = 0 := by rw [h]; rfl
      rw [List.length_drop] at h2
      rw [runN_end (by omega)]
      rfl
    · rw [runN_stop (by rw [bn_here h]; exact hc)]
      rfl
  | c :: W, p, R, h, hW, hR => by
    have hp := drop_lt h (by simp)
    have hk : kindB K (bn u p) = true := by rw [bn_here h]; exact hW c List.mem_cons_self
    rw [runN_step hp hk, run_word W (p + 1) R (by have := drop_more (A := [c]) (B := W ++ R) h; exact this) (fun d hd => hW d (List.mem_cons_of_mem _ hd)) hR]
    simp only [List.length_cons]
    omega
theorem extract_word {u : ByteArray} {p : Nat} {W R : List UInt8} (h : u.data.toList.drop p = W ++ R) : u.extract p (p + W.length) = ba W := by
  apply bytes_same
  simp only [ByteArray.data_extract, Array.toList_extract, List.extract]
  rw [h, show p + W.length - p = W.length by omega, List.take_left]
  simp [ba]
/-- What the lexer comes to from one place on is what it comes to from another, or too many tokens. -/
def LexTo (u : ByteArray) (p : Nat) (l : List Tk) (p' : Nat) (l' : List Tk) : Prop := (toksN u p l = toksN u p' l' ∧ l'.length ≤ 1000) ∨ (l.length = 1000 ∧ ∃ q, toksN u p l = .bad q 34)
theorem toks_word {u : ByteArray} {p : Nat} {W R : List UInt8} {K : Int} {l : List Tk} (h : u.data.toList.drop p = W ++ R) (hW : W ≠ []) (hb : blankB (bn u p) = false) (h37 : ((bn u p : Int) == 37) = false)
    (h2 : twoB u p 47 42 = false) (h39 : ((bn u p : Int) == 39) = false) (hh : headN u p l.getLast? = some (K, p + W.length)) (hl : l.length ≤ 1000) : LexTo u p l (p + W.length) (l ++ [⟨K, ba W, p, p + W.length⟩]) := by
  have hp := drop_lt h (by cases W with | nil => exact absurd rfl hW | cons c W => simp)
  have e : toksN u p l = match oneN u p l with
      | .ok x => toksN u x.b (l ++ [x])
      | .bad p e => .bad p e := by
    rw [toksN_one hp, bet_none hp hb h37 h2]
    dsimp only
    rw [if_neg (by omega)]
    cases oneN u p l <;> rfl
  unfold oneN at e
  rw [hh] at e
  dsimp only at e
  by_cases h1 : l.length = 1000
  · rw [if_pos h1] at e
    exact .inr ⟨h1, p, e⟩
  · rw [if_neg h1, h39, extract_word h] at e
    refine .inl ⟨e, ?_⟩
    rw [List.length_append, List.length_singleton]
    omega
/-- A variable's token. -/
def varTok (W : List UInt8) : Prop := ∃ c r, W = c :: r ∧ greatB c.toNat = true ∧ ∀ d ∈ W, kindB 1 d.toNat = true
theorem great_facts {c : Int} (h : greatB c = true) : blankB c = false ∧ (c == 37) = false ∧ (c == 39) = false ∧ (c == 46) = false ∧ (c == 47) = false ∧ smallB c = false := by
  simp only [greatB, Bool.or_eq_true, Bool.and_eq_true, decide_eq_true_eq] at h
  refine ⟨?_, ?_, ?_, ?_, ?_, ?_⟩
  · simp only [blankB, Bool.or_eq_false_iff, beq_eq_false_iff_ne]; omega
  · rw [beq_eq_false_iff_ne]; omega
  · rw [beq_eq_false_iff_ne]; omega
  · rw [beq_eq_false_iff_ne]; omega
  · rw [beq_eq_false_iff_ne]; omega
  · simp only [smallB, Bool.and_eq_false_iff, decide_eq_false_iff_not]; omega
theorem digit_facts {c : Int} (h : digitB c = true) : blankB c = false ∧ (c == 37) = false ∧ (c == 39) = false ∧ (c == 46) = false ∧ (c == 47) = false ∧ smallB c = false ∧ greatB c = false := by
  simp only [digitB, Bool.and_eq_true, decide_eq_true_eq] at h
  refine ⟨?_, ?_, ?_, ?_, ?_, ?_, ?_⟩
  · simp only [blankB, Bool.or_eq_false_iff, beq_eq_false_iff_ne]; omega
  · rw [beq_eq_false_iff_ne]; omega
  · rw [beq_eq_false_iff_ne]; omega
  · rw [beq_eq_false_iff_ne]; omega
  · rw [beq_eq_false_iff_ne]; omega
  · simp only [smallB, Bool.and_eq_false_iff, decide_eq_false_iff_not]; omega
  · simp only [greatB, Bool.or_eq_false_iff, Bool.and_eq_false_iff, decide_eq_false_iff_not]; omega
theorem two_first {u : ByteArray} {p : Nat} {a b : Int} (h : ((bn u p : Int) == a) = false) : twoB u p a b = false := by unfold twoB; rw [h]; simp
theorem two_second {u : ByteArray} {p : Nat} {a b : Int} (h : ((bn u (p + 1) : Int) == b) = false) : twoB u p a b = false := by unfold twoB; rw [h]; simp
theorem tok_var {u : ByteArray} {p : Nat} {W R : List UInt8} {l : List Tk} (h : u.data.toList.drop p = W ++ R) (hW : varTok W) (hR : stopR R) (hl : l.length ≤ 1000) :
    ∃ x : Tk, x.k = 2 ∧ x.t = ba W ∧ x.a = p ∧ x.b = p + W.length ∧ LexTo u p l (p + W.length) (l ++ [x]) := by
  obtain ⟨c, r, e, hc, hk⟩ := hW
  have hb : (bn u p : Int) = (c.toNat : Int) := bn_here (L := r ++ R) (by rw [h, e]; rfl)
  obtain ⟨f1, f2, f3, f4, f5, f6⟩ := great_facts hc
  rw [← hb] at f1 f2 f3 f4 f5 f6 hc
  refine ⟨⟨2, ba W, p, p + W.length⟩, rfl, rfl, rfl, rfl, toks_word h (by rw [e]; simp) f1 f2 (two_first f5) f3 ?_ hl⟩
  unfold headN
  rw [f4, f6, hc, run_word W p R h hk (hR.k (.inl rfl))]
  simp
theorem tok_int {u : ByteArray} {p : Nat} {W R : List UInt8} {l : List Tk} (h : u.data.toList.drop p = W ++ R) (hW : W ≠ []) (hd : ∀ c ∈ W, 48 ≤ c.toNat ∧ c.toNat ≤ 57) (hR : stopR R) (hl : l.length ≤ 1000) :
    ∃ x : Tk, x.k = 3 ∧ x.t = ba W ∧ x.a = p ∧ x.b = p + W.length ∧ LexTo u p l (p + W.length) (l ++ [x]) := by
  obtain ⟨c, r, e⟩ : ∃ c r, W = c :: r := by
    cases W with
    | nil => exact absurd rfl hW
    | cons c r => exact ⟨c, r, rfl⟩
  have hb : (bn u p : Int) = (c.toNat : Int) := bn_here (L := r ++ R) (by rw [h, e]; rfl)
  have dig : ∀ c ∈ W, digitB c.toNat = true := fun c hc => by
    have := hd c hc
    simp only [digitB, Bool.and_eq_true, decide_eq_true_eq]
    omega
  have hc := dig c (by rw [e]; exact List.mem_cons_self)
  obtain ⟨f1, f2, f3, f4, f5, f6, f7⟩ := digit_facts hc
  rw [← hb] at f1 f2 f3 f4 f5 f6 f7 hc
  refine ⟨⟨3, ba W, p, p + W.length⟩, rfl, rfl, rfl, rfl, toks_word h hW f1 f2 (two_first f5) f3 ?_ hl⟩
  unfold headN
  rw [f4, f6, f7, hc, run_word W p R h (fun c hc => by simp [kindB, dig c hc]) (hR.k (.inr (.inl rfl)))]
  simp
theorem minus_facts : blankB 45 = false ∧ ((45 : Int) == 37) = false ∧ ((45 : Int) == 39) = false ∧ ((45 : Int) == 46) = false ∧ ((45 : Int) == 47) = false ∧ smallB 45 = false ∧ greatB 45 = false ∧ digitB 45 = false ∧ signB 45 = true := by decide
theorem tok_minus {u : ByteArray} {p : Nat} {R : List UInt8} {l : List Tk} (h : u.data.toList.drop p = 45 :: R) (hR : stopK 3 R) (hl : l.length ≤ 1000) :
    ∃ x : Tk, x.k = 1 ∧ x.t = ba [45] ∧ x.a = p ∧ x.b = p + 1 ∧ LexTo u p l (p + 1) (l ++ [x]) := by
  have hb : (bn u p : Int) = 45 := bn_here h
  obtain ⟨f1, f2, f3, f4, f5, f6, f7, f8, f9⟩ := minus_facts
  rw [← hb] at f1 f2 f3 f4 f5 f6 f7 f8 f9
  refine ⟨⟨1, ba [45], p, p + 1⟩, rfl, rfl, rfl, rfl, toks_word (W := [45]) (R := R) h (by simp) f1 f2 (two_first f5) f3 ?_ hl⟩
  unfold headN
  rw [f4, f6, f7, f8, f9, run_word [45] p R h (fun c hc => by rw [List.mem_singleton.1 hc]; decide) hR]
  simp
theorem mark_facts {c : UInt8} (h : markB c.toNat = true) : blankB c.toNat = false ∧ (((c.toNat : Nat) : Int) == 37) = false ∧ (((c.toNat : Nat) : Int) == 39) = false ∧ (((c.toNat : Nat) : Int) == 46) = false ∧ (((c.toNat : Nat) : Int) == 47) = false ∧ smallB c.toNat = false ∧ greatB c.toNat = false ∧ digitB c.toNat = false ∧ signB c.toNat = false ∧ ((((c.toNat : Nat) : Int) == 33) = false ∧ (((c.toNat : Nat) : Int) == 59) = false) := by
  simp only [markB, Bool.or_eq_true, beq_iff_eq] at h
  have h2 : ∀ d : Int, (((((((d = 40 ∨ d = 41) ∨ d = 91) ∨ d = 93) ∨ d = 123) ∨ d = 125) ∨ d = 44) ∨ d = 124) → blankB d = false ∧ (d == 37) = false ∧ (d == 39) = false ∧ (d == 46) = false ∧ (d == 47) = false ∧ smallB d = false ∧ greatB d = false ∧ digitB d = false ∧ signB d = false ∧ ((d == 33) = false ∧ (d == 59) = false) := by
    rintro d (((((((rfl | rfl) | rfl) | rfl) | rfl) | rfl) | rfl) | rfl) <;> decide
  exact h2 _ h
/-- A mark that opens no arguments. -/
theorem tok_mark {u : ByteArray} {p : Nat} {c : UInt8} {R : List UInt8} {l : List Tk} (h : u.data.toList.drop p = c :: R) (hm : markB c.toNat = true) (h40 : c ≠ 40) (hl : l.length ≤ 1000) :
    ∃ x : Tk, Mk x c ∧ x.a = p ∧ x.b = p + 1 ∧ LexTo u p l (p + 1) (l ++ [x]) := by
  have hb : (bn u p : Int) = (c.toNat : Int) := bn_here h
  obtain ⟨f1, f2, f3, f4, f5, f6, f7, f8, f9, f10, f11⟩ := mark_facts hm
  have h40' : (((c.toNat : Nat) : Int) == 40) = false := by
    rw [beq_eq_false_iff_ne]
    intro e
    exact h40 (UInt8.toNat_inj.1 (by have : c.toNat = 40 := by omega
                                     rw [this]; rfl))
  rw [← hb] at f1 f2 f3 f4 f5 f6 f7 f8 f9 f10 f11 hm h40'
  refine ⟨⟨5, ba [c], p, p + 1⟩, ⟨rfl, rfl⟩, rfl, rfl, toks_word (W := [c]) (R := R) h (by simp) f1 f2 (two_first f5) f3 ?_ hl⟩
  unfold headN
  rw [f4, f6, f7, f8, f9, f10, f11, f3, hm, h40']
  simp
/-- The bracket right behind an atom. -/
theorem tok_open {u : ByteArray} {p : Nat} {R : List UInt8} {l : List Tk} {y : Tk} (h : u.data.toList.drop p = 40 :: R) (hy : y.k = 1) (hyb : y.b = p) (hl : (l ++ [y]).length ≤ 1000) :
    ∃ x : Tk, x.k = 4 ∧ x.a = p ∧ x.b = p + 1 ∧ LexTo u p (l ++ [y]) (p + 1) (l ++ [y] ++ [x]) := by
  have hb : (bn u p : Int) = 40 := bn_here h
  obtain ⟨f1, f2, f3, f4, f5, f6, f7, f8, f9, f10, f11⟩ := mark_facts (c := 40) (by decide)
  have hm : markB ((40 : UInt8).toNat : Int) = true := by decide
  have e40 : (((40 : UInt8).toNat : Nat) : Int) = 40 := rfl
  rw [e40, ← hb] at f1 f2 f3 f4 f5 f6 f7 f8 f9 f10 f11 hm
  refine ⟨⟨4, ba [40], p, p + 1⟩, rfl, rfl, rfl, toks_word (W := [40]) (R := R) h (by simp) f1 f2 (two_first f5) f3 ?_ hl⟩
  unfold headN
  rw [f4, f6, f7, f8, f9, f10, f11, f3, hm, hb]
  simp [opens, hy, hyb]
/-- A quoted text is scanned to its end. -/
theorem quo_at (i : Nat) {u : ByteArray} {R : List UInt8} (hR : R = [] ∨ ∃ c r, R = c :: r ∧ c ≠ 39) : ∀ (r x b : List UInt8) (k : Nat), escN r = some x → u.data.toList.drop k = x ++ 39 :: R → quoN u i k b = .ok (b ++ r) (k + x.length + 1)
  | [], x, b, k, h, hd => by
    injection h with h
    subst h
    have hk := drop_lt hd (by simp)
    have h1 : (bn u k : Int) = 39 := bn_here hd
    have h2 : twoB u k 39 39 = false := by
      rcases hR with rfl | ⟨c, r, rfl, hc⟩
      · have := drop_more (A := [39]) (B := []) hd
        have h3 := len_u u
        have h4 : (u.data.toList.drop (k + [(39 : UInt8)].length)).length = 0 := by rw [this]; rfl
        rw [List.length_drop] at h4
        simp only [List.length_singleton] at h4
        unfold twoB
        rw [decide_eq_false (by omega)]
        simp
      · have this : u.data.toList.drop (k + 1) = c :: r := drop_more (A := [39]) (B := c :: r) hd
        refine two_second ?_
        rw [bn_here this]
        exact (byte_eq c 39).trans (decide_eq_false hc)
    rw [quoN_eq hk, h2, h1]
    simp
  | c :: r, x, b, k, h, hd => by
    simp only [escN] at h
    cases hc : esc1 c with
    | none => rw [hc] at h; cases h
    | some y =>
      cases hr : escN r with
      | none => rw [hc, hr] at h; cases h
      | some z =>
        rw [hc, hr] at h
        injection h with h
        subst h
        have hd2 : u.data.toList.drop k = y ++ (z ++ 39 :: R) := by rw [hd, List.append_assoc]
        have hd' := drop_more hd2
        have hk := drop_lt hd (by simp)
        have ih := quo_at i hR r z (b ++ [c]) (k + y.length) hr hd'
        have e2 : b ++ [c] ++ r = b ++ c :: r := by simp
        have e3 : k + (y ++ z).length + 1 = k + y.length + z.length + 1 := by simp; omega
        rw [e3, ← e2, ← ih]
        have hb : ∀ j, j < y.length → bu u (k + j) = y.getD j 0 := fun j hj => by
          rw [bu_drop hd2]
          simp only [List.getD_eq_getElem?_getD]
          rw [List.getElem?_append_left hj]
        have two0 : ∀ d : UInt8, d ≠ 39 → bu u k = d → twoB u k 39 39 = false := fun d hd he => by
          refine two_first ?_
          rw [bn_bu, he]
          exact (byte_eq d 39).trans (decide_eq_false hd)
        have pair : ∀ d : UInt8, y = [92, d] → (d = 110 ∧ c = 10 ∨ d = 116 ∧ c = 9 ∨ (d = 92 ∨ d = 39) ∧ c = d) → quoN u i k b = quoN u i (k + y.length) (b ++ [c]) := fun d hy hdd => by
          have hl : y.length = 2 := by rw [hy]; rfl
          have h0 := hb 0 (by omega)
          have h1 := hb 1 (by omega)
          rw [hy] at h0 h1
          have h0 : bu u k = 92 := h0
          have h1 : bu u (k + 1) = d := h1
          have hk1 : k + 1 < u.size := by
            have := drop_le hd2 (by rw [hy]; simp)
            have h3 := drop_lt hd' (by simp)
            omega
          rw [quoN_eq hk, two0 92 (by decide) h0, hl]
          have n0 : (bn u k : Int) = 92 := by rw [bn_bu, h0]; rfl
          have n1 : (bn u (k + 1) : Int) = (d.toNat : Int) := by rw [bn_bu, h1]
          rw [n0, n1, h1]
          simp only [Bool.false_eq_true, if_false]
          rw [if_neg (by decide), if_pos (by decide), if_neg (by omega)]
          rcases hdd with ⟨rfl, rfl⟩ | ⟨rfl, rfl⟩ | ⟨rfl | rfl, rfl⟩
          · rw [if_pos (by decide)]
          · rw [if_neg (by decide), if_pos (by decide)]
          · rw [if_neg (by decide), if_neg (by decide), if_pos (by decide)]
          · rw [if_neg (by decide), if_neg (by decide), if_pos (by decide)]
        unfold esc1 at hc
        split at hc
        · rename_i h10
          injection hc with hc
          exact pair 110 hc.symm (.inl ⟨rfl, h10⟩)
        · split at hc
          · rename_i h9
            injection hc with hc
            exact pair 116 hc.symm (.inr (.inl ⟨rfl, h9⟩))
          · split at hc
            · rename_i h9
              injection hc with hc
              exact pair c hc.symm (.inr (.inr ⟨h9, rfl⟩))
            · rename_i h99
              split at hc
              · cases hc
              · rename_i hrange
                injection hc with hc
                have hl : y.length = 1 := by rw [← hc]; rfl
                have h0 := hb 0 (by omega)
                rw [← hc] at h0
                have h0 : bu u k = c := h0
                have n0 : (bn u k : Int) = (c.toNat : Int) := by rw [bn_bu, h0]
                rw [quoN_eq hk, two0 c (fun e => h99 (.inr e)) h0, hl, n0, h0]
                have m1 : (((c.toNat : Nat) : Int) == 39) = false := (byte_eq c 39).trans (decide_eq_false fun e => h99 (.inr e))
                have m2 : (((c.toNat : Nat) : Int) == 92) = false := (byte_eq c 92).trans (decide_eq_false fun e => h99 (.inl e))
                rw [m1, m2, decide_eq_false (by omega : ¬ ((c.toNat : Nat) : Int) < 32), decide_eq_false (by omega : ¬ (126 : Int) < ((c.toNat : Nat) : Int))]
                simp
theorem quote_facts : blankB 39 = false ∧ ((39 : Int) == 37) = false ∧ ((39 : Int) == 47) = false := by decide
/-- An atom, quoted or not. -/
theorem tok_atom {u : ByteArray} {p : Nat} {s : ByteArray} {R : List UInt8} {l : List Tk} (h : u.data.toList.drop p = (quoteN s).data.toList ++ R) (hq : (quoteN s).size ≠ 0) (hR : stopR R) (hl : l.length ≤ 1000) :
    ∃ x : Tk, x.k = 1 ∧ x.t = s ∧ x.a = p ∧ x.b = p + (quoteN s).data.toList.length ∧ LexTo u p l (p + (quoteN s).data.toList.length) (l ++ [x]) := by
  cases hpl : plainN s with
  | false =>
    have e : quoteN s = match escN s.data.toList with
      | some l => quotedN l
      | none => ⟨#[]⟩ := by unfold quoteN; rw [hpl]; rfl
    cases hx : escN s.data.toList with
    | none => rw [e, hx] at hq; exact absurd rfl hq
    | some x =>
      rw [hx] at e
      dsimp only at e
      have e2 : (quoteN s).data.toList = 39 :: (x ++ [39]) := by rw [e]; rfl
      rw [e2] at h ⊢
      have hd : u.data.toList.drop p = [39] ++ (x ++ 39 :: R) := by rw [h]; simp
      have hp := drop_lt h (by simp)
      have hb : (bn u p : Int) = 39 := bn_here h
      obtain ⟨f1, f2, f3⟩ := quote_facts
      rw [← hb] at f1 f2 f3
      have hR' : R = [] ∨ ∃ c r, R = c :: r ∧ c ≠ 39 := by
        rcases hR with h | ⟨c, r, h, hc⟩
        · exact .inl h
        · refine .inr ⟨c, r, h, fun e => ?_⟩
          rw [e] at hc
          exact absurd hc (by decide)
      have hqn := quo_at p hR' s.data.toList x [] (p + 1) hx (drop_more hd)
      have hlen : p + (39 :: (x ++ [39])).length = p + 1 + x.length + 1 := by simp; omega
      rw [hlen]
      refine ⟨⟨1, ⟨([] ++ s.data.toList).toArray⟩, p, p + 1 + x.length + 1⟩, rfl, by simp, rfl, rfl, ?_⟩
      have et : toksN u p l = match oneN u p l with
          | .ok x => toksN u x.b (l ++ [x])
          | .bad p e => .bad p e := by
        rw [toksN_one hp, bet_none hp f1 f2 (two_first f3)]
        dsimp only
        rw [if_neg (by omega)]
        cases oneN u p l <;> rfl
      unfold oneN at et
      rw [headN_quote hb] at et
      dsimp only at et
      by_cases h1 : l.length = 1000
      · rw [if_pos h1] at et
        exact .inr ⟨by assumption, p, et⟩
      · rw [if_neg h1, if_pos (by rw [hb]; rfl), hqn] at et
        refine .inl ⟨et, ?_⟩
        rw [List.length_append, List.length_singleton]
        omega
  | true =>
    have e : quoteN s = s := by unfold quoteN; rw [hpl]; rfl
    rw [e] at h hq ⊢
    have hs : 0 < s.size := by omega
    have hsl := len_u s
    have hW : s.data.toList ≠ [] := fun h0 => by rw [h0] at hsl; simp at hsl; omega
    have hp := drop_lt h (by simp [hW])
    have hbu : ∀ j, j < s.size → bu u (p + j) = bu s j := fun j hj => by
      rw [bu_drop h]
      unfold bu
      simp only [List.getD_eq_getElem?_getD]
      rw [List.getElem?_append_left (by omega)]
    have hbn : ∀ j, j < s.size → bn u (p + j) = bn s j := fun j hj => by rw [bn_bu, hbu j hj, ← bn_bu]
    have hb0 : bn u p = bn s 0 := hbn 0 hs
    have hmem : ∀ K, runN K s 0 = s.size → ∀ c ∈ s.data.toList, kindB K c.toNat = true := fun K hr c hc => by
      obtain ⟨j, hj, hjc⟩ := List.getElem_of_mem hc
      have := run_all hr (i := j) (by omega)
      rw [bn_bu] at this
      unfold bu at this
      rw [List.getD_eq_getElem?_getD, List.getElem?_eq_getElem hj, Option.getD_some, hjc] at this
      exact this
    have hba : ba s.data.toList = s := by apply ByteArray.ext; simp [ba]
    have hsz : s.data.toList.length = s.size := hsl
    have fin : blankB (bn u p) = false → ((bn u p : Int) == 37) = false → twoB u p 47 42 = false → ((bn u p : Int) == 39) = false → headN u p l.getLast? = some (1, p + s.data.toList.length) →
        ∃ x : Tk, x.k = 1 ∧ x.t = s ∧ x.a = p ∧ x.b = p + s.data.toList.length ∧ LexTo u p l (p + s.data.toList.length) (l ++ [x]) := fun h1 h2 h3 h4 h5 =>
      ⟨⟨1, ba s.data.toList, p, p + s.data.toList.length⟩, rfl, hba, rfl, rfl, toks_word h hW h1 h2 h3 h4 h5 hl⟩
    unfold plainN at hpl
    rw [Bool.and_eq_true, decide_eq_true_eq] at hpl
    obtain ⟨_, hpl⟩ := hpl
    cases hsm : smallB (bn s 0) with
    | true =>
      rw [hsm, if_pos rfl, decide_eq_true_eq] at hpl
      obtain ⟨f1, f2, f3, f4, f5⟩ := small_facts hsm
      rw [← hb0] at f1 f2 f3 f4 f5 hsm
      refine fin f1 f2 (two_first f5) f3 ?_
      unfold headN
      rw [f4, hsm, run_word _ p R h (hmem 1 hpl) (hR.k (.inl rfl))]
      simp
    | false =>
      rw [hsm] at hpl
      simp only [Bool.false_eq_true, if_false] at hpl
      cases hsi : signB (bn s 0) with
      | true =>
        rw [hsi, if_pos rfl, Bool.and_eq_true, Bool.and_eq_true, decide_eq_true_eq] at hpl
        obtain ⟨⟨hdot, htwo⟩, hrun⟩ := hpl
        obtain ⟨f1, f2, f3, f4, f5, f6⟩ := sign_facts hsi
        have htwo' : twoB s 0 47 42 = false := by simpa using htwo
        have hsm' := hsm
        rw [← hb0] at f1 f2 f3 f4 f5 f6 hsi hsm'
        have h2 : twoB u p 47 42 = false := by
          cases h47 : ((bn u p : Int) == 47) with
          | false => exact two_first h47
          | true =>
            refine two_second ?_
            by_cases h1 : s.size = 1
            · have hd1 := drop_more h
              rw [hsz, h1] at hd1
              rcases hR with rfl | ⟨c, r, rfl, hc⟩
              · have h3 := len_u u
                have h4 : (u.data.toList.drop (p + 1)).length = 0 := by rw [hd1]; rfl
                rw [List.length_drop] at h4
                have : bn u (p + 1) = 0 := by
                  unfold bn
                  rw [List.getD_eq_getElem?_getD, List.getElem?_eq_none (by omega)]
                  rfl
                rw [this]
                rfl
              · rw [bn_here hd1]
                cases h42 : (((c.toNat : Nat) : Int) == 42) with
                | false => rfl
                | true =>
                  have : c = 42 := of_decide_eq_true ((byte_eq c 42).symm.trans h42)
                  rw [this] at hc
                  exact absurd hc (by decide)
            · rw [hbn 1 (by omega)]
              unfold twoB at htwo'
              rw [← hb0, h47, decide_eq_true (show 0 + 1 < s.size by omega)] at htwo'
              simpa using htwo'
        have hd : ((bn u p : Int) == 46 && (decide (p + 1 = u.size) || blankB (bn u (p + 1)) || (bn u (p + 1) : Int) == 37)) = false := by
          cases h46 : ((bn u p : Int) == 46) with
          | false => rfl
          | true =>
            rw [← hb0, h46] at hdot
            have h1 : s.size ≠ 1 := by simpa using hdot
            have hk := run_all hrun (i := 1) (by omega)
            have hsg : signB (bn s 1) = true := by simpa [kindB] using hk
            obtain ⟨_, _, _, g4, g5, _⟩ := sign_facts hsg
            rw [← hbn 1 (by omega)] at g4 g5
            have h3 := drop_le h hW
            rw [g4, g5, decide_eq_false (by omega)]
            rfl
        refine fin f4 f5 h2 f6 ?_
        unfold headN
        rw [hd, f1, f2, f3, hsi, run_word _ p R h (hmem 3 hrun) (hR.k (.inr (.inr rfl)))]
        simp
      | false =>
        rw [hsi] at hpl
        simp only [Bool.false_eq_true, if_false, Bool.and_eq_true, decide_eq_true_eq, Bool.or_eq_true, beq_iff_eq] at hpl
        obtain ⟨hc, h1⟩ := hpl
        have f : ∀ c : Int, (c = 33 ∨ c = 59) → blankB c = false ∧ (c == 37) = false ∧ (c == 39) = false ∧ (c == 46) = false ∧ (c == 47) = false ∧ greatB c = false ∧ digitB c = false ∧ (c == 33 || c == 59) = true := by
          rintro c (rfl | rfl) <;> exact ⟨by decide, by decide, by decide, by decide, by decide, by decide, by decide, by decide⟩
        obtain ⟨f1, f2, f3, f4, f5, f6, f7, f8⟩ := f _ hc
        rw [← hb0] at f1 f2 f3 f4 f5 f6 f7 f8 hsi hsm
        refine fin f1 f2 (two_first f5) f3 ?_
        unfold headN
        rw [f4, hsm, f6, f7, hsi, f8, hsz, h1]
        simp
/-- A variable's text is one. -/
def VarOk (V : Int → List UInt8) : Prop := ∀ n, 0 ≤ n → varTok (V n)
theorem digits_stop3 (u : Nat) (R : List UInt8) : stopK 3 (Lib.decDigits u ++ R) := by
  cases hd : Lib.decDigits u with
  | nil => exact absurd hd (dec_ne _)
  | cons c l =>
    refine .inr ⟨c, l ++ R, rfl, ?_⟩
    have := dec_digits u c (by rw [hd]; exact List.mem_cons_self)
    have h2 : ∀ n : Nat, 48 ≤ n → n ≤ 57 → kindB 3 n = false := by
      intro n h0 h1
      have : n = 48 ∨ n = 49 ∨ n = 50 ∨ n = 51 ∨ n = 52 ∨ n = 53 ∨ n = 54 ∨ n = 55 ∨ n = 56 ∨ n = 57 := by omega
      rcases this with rfl | rfl | rfl | rfl | rfl | rfl | rfl | rfl | rfl | rfl <;> decide
    exact h2 _ this.1 this.2
/-- From one place on the lexer comes to some such tokens, or to too many. -/
def LexP (u : ByteArray) (p : Nat) (l : List Tk) (p' : Nat) (P : List Tk → Prop) : Prop := (∃ tks, P tks ∧ toksN u p l = toksN u p' (l ++ tks) ∧ (l ++ tks).length ≤ 1000) ∨ ∃ q, toksN u p l = .bad q 34
theorem LexP.one {u : ByteArray} {p p' : Nat} {l : List Tk} {x : Tk} {P : List Tk → Prop} (h : LexTo u p l p' (l ++ [x])) (hP : P [x]) : LexP u p l p' P := by
  rcases h with ⟨h, hl⟩ | h
  · exact .inl ⟨[x], hP, h, hl⟩
  · exact .inr h.2
theorem LexP.bind {u : ByteArray} {p p1 p2 : Nat} {l : List Tk} {P Q : List Tk → Prop} (h : LexP u p l p1 P) (h2 : ∀ a, P a → (l ++ a).length ≤ 1000 → LexP u p1 (l ++ a) p2 fun b => Q (a ++ b)) : LexP u p l p2 Q := by
  rcases h with ⟨a, ha, h, hl⟩ | h
  · rcases h2 a ha hl with ⟨b, hb, h3, hl3⟩ | ⟨q, h3⟩
    · exact .inl ⟨a ++ b, hb, by rw [h, h3, List.append_assoc], by rw [← List.append_assoc]; exact hl3⟩
    · exact .inr ⟨q, h.trans h3⟩
  · exact .inr h
theorem LexP.mono {u : ByteArray} {p p1 : Nat} {l : List Tk} {P Q : List Tk → Prop} (h : LexP u p l p1 P) (hq : ∀ a, P a → Q a) : LexP u p l p1 Q := by
  rcases h with ⟨a, ha, h⟩ | h
  · exact .inl ⟨a, hq a ha, h⟩
  · exact .inr h
theorem LexP.at {u : ByteArray} {p p1 p2 : Nat} {l : List Tk} {P : List Tk → Prop} (h : LexP u p l p1 P) (e : p1 = p2) : LexP u p l p2 P := e ▸ h
theorem LexP.mark {u : ByteArray} {p : Nat} {c : UInt8} {R : List UInt8} {l : List Tk} (h : u.data.toList.drop p = c :: R) (hm : markB c.toNat = true) (h40 : c ≠ 40) (hl : l.length ≤ 1000) : LexP u p l (p + 1) fun tks => ∃ x, tks = [x] ∧ Mk x c := by
  obtain ⟨x, hx, _, _, hL⟩ := tok_mark h hm h40 hl
  exact .one hL ⟨x, rfl, hx⟩
theorem LexP.none {u : ByteArray} {p : Nat} {l : List Tk} {P : List Tk → Prop} (hl : l.length ≤ 1000) (h : P []) : LexP u p l p P := .inl ⟨[], h, by rw [List.append_nil], by rw [List.append_nil]; exact hl⟩
theorem lex_rest {V : Int → List UInt8} {u : ByteArray} {f : Nat → T} : ∀ (r j : Nat) {p : Nat} {R : List UInt8} {l : List Tk},
    (∀ i, i < j + r → ∀ {p : Nat} {R : List UInt8} {l : List Tk}, u.data.toList.drop p = (txB V (f i)).1 ++ R → stopR R → l.length ≤ 1000 → LexP u p l (p + (txB V (f i)).1.length) (tkB V (f i)).1) →
    u.data.toList.drop p = restB (fun i => (txB V (f i)).1) j r ++ R → stopR R → l.length ≤ 1000 → LexP u p l (p + (restB (fun i => (txB V (f i)).1) j r).length) (restTk (fun i => (tkB V (f i)).1) j r)
  | 0, j, p, R, l, _, h, hR, hl => LexP.none hl rfl
  | r + 1, j, p, R, l, ih, h, hR, hl => by
    simp only [restB, List.cons_append, List.append_assoc] at h
    have hd1 := drop_more (A := [44]) h
    have hstop : stopR (restB (fun i => (txB V (f i)).1) (j + 1) r ++ R) := by
      cases r with
      | zero => simpa [restB] using hR
      | succ r => exact stopR_of _ (by decide)
    refine (LexP.bind (LexP.mark h (by decide) (by decide) hl) fun a ha hla => ?_).at (p1 := p + 1 + (txB V (f j)).1.length + (restB (fun i => (txB V (f i)).1) (j + 1) r).length) (by simp only [restB, List.length_cons, List.length_append]; omega)
    obtain ⟨c, rfl, hc⟩ := ha
    refine LexP.bind (ih j (by omega) hd1 hstop hla) fun b hb hlb => ?_
    refine (lex_rest r (j + 1) (fun i hi => ih i (by omega)) (drop_more hd1) hR hlb).mono fun d hdd => ?_
    exact ⟨c, b, d, by simp, hc, hb, hdd⟩
theorem lex_term {V : Int → List UInt8} (hV : VarOk V) {u : ByteArray} : ∀ (t : T), t.wr →
    (∀ {p : Nat} {R : List UInt8} {l : List Tk}, u.data.toList.drop p = (txB V t).1 ++ R → stopR R → l.length ≤ 1000 → LexP u p l (p + (txB V t).1.length) (tkB V t).1) ∧
    ∀ {p : Nat} {R : List UInt8} {l : List Tk}, u.data.toList.drop p = (txB V t).2 ++ R → stopR R → l.length ≤ 1000 → LexP u p l (p + (txB V t).2.length) (tkB V t).2 := by
  intro t
  induction t with
  | nil => exact fun h => h.elim
  | mk k n s m a ih =>
    intro hw
    -- the text itself
    have main : ∀ {p : Nat} {R : List UInt8} {l : List Tk}, u.data.toList.drop p = (txB V (.mk k n s m a)).1 ++ R → stopR R → l.length ≤ 1000 → LexP u p l (p + (txB V (.mk k n s m a)).1.length) (tkB V (.mk k n s m a)).1 := by
      intro p R l h hR hl
      rcases hw with ⟨rfl, hn⟩ | ⟨rfl, hn⟩ | ⟨rfl, hq⟩ | ⟨rfl, hq, hm, hwa⟩
      · rw [tx_var] at h ⊢
        obtain ⟨x, h1, h2, _, _, hL⟩ := tok_var h (hV n hn) hR hl
        exact .one hL ((tk_var V n s m a _).mpr ⟨x, rfl, h1, h2⟩)
      · rw [tx_int] at h ⊢
        by_cases h0 : n < 0
        · have e : Lib.itoa n = 45 :: Lib.decDigits n.natAbs := by rw [Lib.itoa, if_pos h0]
          rw [e] at h ⊢
          have hd1 := drop_more (A := [45]) (B := Lib.decDigits n.natAbs ++ R) h
          obtain ⟨x, h1, h2, _, hb, hL⟩ := tok_minus h (digits_stop3 _ R) hl
          refine (LexP.bind (P := fun tks => tks = [x]) (.one hL rfl) fun a' ha hla => ?_).at (p1 := p + 1 + (Lib.decDigits n.natAbs).length) (by simp only [List.length_cons]; omega)
          subst ha
          obtain ⟨y, h3, h4, h5, _, hL2⟩ := tok_int hd1 (dec_ne _) (dec_digits _) hR hla
          exact .one hL2 ((tk_neg V h0 s m a _).mpr ⟨x, y, rfl, h1, h2, h3, h4, by rw [h5, hb]; rfl⟩)
        · have e : Lib.itoa n = Lib.decDigits n.toNat := by rw [Lib.itoa, if_neg h0]
          rw [e] at h ⊢
          obtain ⟨x, h1, h2, _, _, hL⟩ := tok_int h (dec_ne _) (dec_digits _) hR hl
          exact .one hL ((tk_pos V h0 s m a _).mpr ⟨x, rfl, h1, by rw [h2, e]⟩)
      · by_cases h1 : s = nilS
        · subst h1
          rw [tx_nil] at h ⊢
          have hd1 := drop_more (A := [91]) (B := 93 :: R) h
          refine LexP.bind (p1 := p + 1) (LexP.mark (R := 93 :: R) h (by decide) (by decide) hl) fun a' ha hla => ?_
          obtain ⟨x, rfl, hx⟩ := ha
          refine (LexP.mark (R := R) hd1 (by decide) (by decide) hla).mono fun b hb => ?_
          obtain ⟨y, rfl, hy⟩ := hb
          exact (tk_nil V n m a _).mpr ⟨x, y, rfl, hx, hy⟩
        · by_cases h2 : s = curS
          · subst h2
            rw [tx_cur] at h ⊢
            have hd1 := drop_more (A := [123]) (B := 125 :: R) h
            refine LexP.bind (p1 := p + 1) (LexP.mark (R := 125 :: R) h (by decide) (by decide) hl) fun a' ha hla => ?_
            obtain ⟨x, rfl, hx⟩ := ha
            refine (LexP.mark (R := R) hd1 (by decide) (by decide) hla).mono fun b hb => ?_
            obtain ⟨y, rfl, hy⟩ := hb
            exact (tk_cur V n m a _).mpr ⟨x, y, rfl, hx, hy⟩
          · rw [tx_atom V h1 h2] at h ⊢
            obtain ⟨x, h3, h4, _, _, hL⟩ := tok_atom h hq hR hl
            exact .one hL ((tk_atom V h1 h2 n m a _).mpr ⟨x, rfl, h3, h4⟩)
      · by_cases hp : s = dotS ∧ m = 2
        · obtain ⟨rfl, rfl⟩ := hp
          rw [tx_pair] at h ⊢
          simp only [List.cons_append, List.append_assoc] at h
          have hd1 := drop_more (A := [91]) h
          have st1 : stopR ((txB V (a 1)).2 ++ ([93] ++ R)) := by
            rcases ht : (txB V (a 1)).2 with _ | ⟨c, r⟩
            · exact stopR_of _ (by decide)
            · have hc : c = 44 ∨ c = 124 := by
                cases hu : a 1 with
                | nil => have := hwa 1 (by omega); rw [hu] at this; exact this.elim
                | mk k' n' s' m' a' =>
                  rw [hu] at ht
                  rw [txB] at ht
                  dsimp only at ht
                  split at ht
                  · injection ht with ht _; exact .inl ht.symm
                  · split at ht
                    · cases ht
                    · injection ht with ht _; exact .inr ht.symm
              rcases hc with rfl | rfl <;> exact stopR_of _ (by decide)
          refine (LexP.bind (LexP.mark h (by decide) (by decide) hl) fun a' ha hla => ?_).at (p1 := p + 1 + (txB V (a 0)).1.length + (txB V (a 1)).2.length + 1) (by simp only [List.length_cons, List.length_append, List.length_nil]; omega)
          obtain ⟨x, rfl, hx⟩ := ha
          refine LexP.bind ((ih 0 (hwa 0 (by omega))).1 hd1 st1 hla) fun l0 h0 hl0 => ?_
          have hd2 := drop_more hd1
          refine LexP.bind ((ih 1 (hwa 1 (by omega))).2 hd2 (stopR_of _ (by decide)) hl0) fun l1 h1 hl1 => ?_
          have hd3 := drop_more hd2
          refine (LexP.mark (R := R) hd3 (by decide) (by decide) hl1).mono fun b hb => ?_
          obtain ⟨y, rfl, hy⟩ := hb
          exact (tk_pair V n a _).mpr ⟨x, y, l0, l1, by simp, hx, hy, h0, h1⟩
        · rw [tx_cmp V hp] at h ⊢
          simp only [List.cons_append, List.append_assoc] at h
          have st0 : stopR (40 :: ((txB V (a 0)).1 ++ (restB (fun i => (txB V (a i)).1) 1 (m - 1) ++ ([41] ++ R)))) := stopR_of _ (by decide)
          obtain ⟨x, h1, h2, _, hxb, hL⟩ := tok_atom h hq st0 hl
          refine (LexP.bind (P := fun tks => tks = [x]) (.one hL rfl) fun a' ha hla => ?_).at (p1 := p + (quoteN s).data.toList.length + 1 + (txB V (a 0)).1.length + (restB (fun i => (txB V (a i)).1) 1 (m - 1)).length + 1) (by simp only [List.length_cons, List.length_append, List.length_nil]; omega)
          subst ha
          have hd1 := drop_more h
          obtain ⟨y, hy, _, _, hL2⟩ := tok_open hd1 h1 hxb hla
          refine LexP.bind (P := fun tks => tks = [y]) (.one hL2 rfl) fun b hb hlb => ?_
          subst hb
          have hd2 := drop_more (A := [40]) hd1
          have st1 : stopR (restB (fun i => (txB V (a i)).1) 1 (m - 1) ++ ([41] ++ R)) := by
            cases m - 1 with
            | zero => exact stopR_of _ (by decide)
            | succ r => exact stopR_of _ (by decide)
          refine LexP.bind ((ih 0 (hwa 0 hm)).1 hd2 st1 hlb) fun l0 h0 hl0 => ?_
          have hd3 := drop_more hd2
          refine LexP.bind (lex_rest (m - 1) 1 (fun i hi => (ih i (hwa i (by omega))).1) hd3 (stopR_of _ (by decide)) hl0) fun l1 h1' hl1 => ?_
          have hd4 := drop_more hd3
          refine (LexP.mark (R := R) hd4 (by decide) (by decide) hl1).mono fun d hd => ?_
          obtain ⟨z, rfl, hz⟩ := hd
          exact (tk_cmp V hp n a _).mpr ⟨x, y, z, l0, l1, by simp, h1, h2, hy, hz, h0, h1'⟩
    refine ⟨main, ?_⟩
    intro p R l h hR hl
    by_cases hp : k = 4 ∧ s = dotS ∧ m = 2
    · obtain ⟨rfl, rfl, rfl⟩ := hp
      have hwa : ∀ i, i < 2 → (a i).wr := by
        rcases hw with ⟨h, _⟩ | ⟨h, _⟩ | ⟨h, _⟩ | h
        · exact absurd h (by decide)
        · exact absurd h (by decide)
        · exact absurd h (by decide)
        · exact h.2.2.2
      rw [tx_pair] at h ⊢
      simp only [List.cons_append, List.append_assoc] at h
      have hd1 := drop_more (A := [44]) h
      have st1 : stopR ((txB V (a 1)).2 ++ R) := by
        rcases ht : (txB V (a 1)).2 with _ | ⟨c, r⟩
        · exact hR
        · have hc : c = 44 ∨ c = 124 := by
            cases hu : a 1 with
            | nil => have := hwa 1 (by omega); rw [hu] at this; exact this.elim
            | mk k' n' s' m' a' =>
              rw [hu] at ht
              rw [txB] at ht
              dsimp only at ht
              split at ht
              · injection ht with ht _; exact .inl ht.symm
              · split at ht
                · cases ht
                · injection ht with ht _; exact .inr ht.symm
          rcases hc with rfl | rfl <;> exact stopR_of _ (by decide)
      refine (LexP.bind (LexP.mark h (by decide) (by decide) hl) fun a' ha hla => ?_).at (p1 := p + 1 + (txB V (a 0)).1.length + (txB V (a 1)).2.length) (by simp only [List.length_cons, List.length_append]; omega)
      obtain ⟨x, rfl, hx⟩ := ha
      refine LexP.bind ((ih 0 (hwa 0 (by omega))).1 hd1 st1 hla) fun l0 h0 hl0 => ?_
      refine ((ih 1 (hwa 1 (by omega))).2 (drop_more hd1) hR hl0).mono fun l1 h1 => ?_
      exact (tl_pair V n a _).mpr ⟨x, l0, l1, by simp, hx, h0, h1⟩
    · by_cases h2 : k = 3 ∧ s = nilS
      · obtain ⟨rfl, rfl⟩ := h2
        rw [tx_nil] at h ⊢
        exact LexP.none hl ((tl_nil V n m a _).mpr rfl)
      · rw [txt_else V hp h2] at h ⊢
        have hd1 := drop_more (A := [124]) h
        refine (LexP.bind (LexP.mark h (by decide) (by decide) hl) fun a' ha hla => ?_).at (p1 := p + 1 + (txB V (.mk k n s m a)).1.length) (by simp only [List.length_cons]; omega)
        obtain ⟨x, rfl, hx⟩ := ha
        refine (main hd1 hR hla).mono fun l0 h0 => ?_
        exact (tl_else V hp h2 n a _).mpr ⟨x, l0, rfl, hx, h0⟩
end Go.Proofs.YtiefbdblefliaaaDoor
namespace Go.Proofs.YtiefbdblefliaaaDoor
open Go.RowKit

def rnRow (f : Nat → List ByteArray → T × List ByteArray) : Nat → Nat → List ByteArray → List T × List ByteArray
  | _, 0, ns => ([], ns)
  | j, r + 1, ns => ((f j ns).1 :: (rnRow f (j + 1) r (f j ns).2).1, (rnRow f (j + 1) r (f j ns).2).2)
/-- A term with its variables numbered by their texts. -/
def rnT (V : Int → List UInt8) : T → List ByteArray → T × List ByteArray
  | .nil, ns => (.nil, ns)
  | .mk k n s m a, ns =>
    if k = 1 then (vrT (varN (ba (V n)) ns).1, (varN (ba (V n)) ns).2)
    else if k = 2 then (inT n, ns)
    else if k = 3 then (atT s, ns)
    else if s = dotS ∧ m = 2 then (twoT dotS (rnT V (a 0) ns).1 (rnT V (a 1) (rnT V (a 0) ns).2).1, (rnT V (a 1) (rnT V (a 0) ns).2).2)
    else (cmpT s ((rnT V (a 0) ns).1 :: (rnRow (fun i => rnT V (a i)) 1 (m - 1) (rnT V (a 0) ns).2).1), (rnRow (fun i => rnT V (a i)) 1 (m - 1) (rnT V (a 0) ns).2).2)
section
variable (V : Int → List UInt8)
theorem rn_var (n : Int) (s : ByteArray) (m : Nat) (a : Nat → T) (ns : List ByteArray) : rnT V (.mk 1 n s m a) ns = (vrT (varN (ba (V n)) ns).1, (varN (ba (V n)) ns).2) := by rw [rnT, if_pos rfl]
theorem rn_int (n : Int) (s : ByteArray) (m : Nat) (a : Nat → T) (ns : List ByteArray) : rnT V (.mk 2 n s m a) ns = (inT n, ns) := by rw [rnT, if_neg (by decide), if_pos rfl]
theorem rn_atom (n : Int) (s : ByteArray) (m : Nat) (a : Nat → T) (ns : List ByteArray) : rnT V (.mk 3 n s m a) ns = (atT s, ns) := by rw [rnT, if_neg (by decide), if_neg (by decide), if_pos rfl]
theorem rn_pair (n : Int) (a : Nat → T) (ns : List ByteArray) : rnT V (.mk 4 n dotS 2 a) ns = (twoT dotS (rnT V (a 0) ns).1 (rnT V (a 1) (rnT V (a 0) ns).2).1, (rnT V (a 1) (rnT V (a 0) ns).2).2) := by
  rw [rnT, if_neg (by decide), if_neg (by decide), if_neg (by decide), if_pos ⟨rfl, rfl⟩]
theorem rn_cmp {s : ByteArray} {m : Nat} (h : ¬ (s = dotS ∧ m = 2)) (n : Int) (a : Nat → T) (ns : List ByteArray) : rnT V (.mk 4 n s m a) ns = (cmpT s ((rnT V (a 0) ns).1 :: (rnRow (fun i => rnT V (a i)) 1 (m - 1) (rnT V (a 0) ns).2).1), (rnRow (fun i => rnT V (a i)) 1 (m - 1) (rnT V (a 0) ns).2).2) := by
  rw [rnT, if_neg (by decide), if_neg (by decide), if_neg (by decide), if_neg h]
end
def supTo : Nat → (Nat → Nat) → Nat
  | 0, _ => 0
  | n + 1, f => max (supTo n f) (f n)
theorem sup_ge {f : Nat → Nat} : ∀ {m i : Nat}, i < m → f i ≤ supTo m f
  | m + 1, i, h => by
    simp only [supTo]
    rcases Nat.lt_or_ge i m with h1 | h1
    · have := sup_ge (f := f) h1; omega
    · obtain rfl : i = m := by omega
      omega
/-- How deep a term's text goes; and what stands behind an element of a list. -/
def lvB : T → Nat × Nat
  | .nil => (1, 1)
  | .mk k _ s m a =>
    let t := if k = 4 then (if s = dotS ∧ m = 2 then 1 + max (lvB (a 0)).1 (lvB (a 1)).2 else 1 + supTo m fun i => (lvB (a i)).1) else 1
    (t, if k = 4 ∧ s = dotS ∧ m = 2 then max (lvB (a 0)).1 (lvB (a 1)).2 else if k = 3 ∧ s = nilS then 0 else t)
theorem lv_pos (t : T) : 1 ≤ (lvB t).1 := by
  cases t with
  | nil => simp [lvB]
  | mk k n s m a =>
    rw [lvB]
    dsimp only
    split
    · split <;> omega
    · omega
theorem lv_pair (n : Int) (a : Nat → T) : lvB (.mk 4 n dotS 2 a) = (1 + max (lvB (a 0)).1 (lvB (a 1)).2, max (lvB (a 0)).1 (lvB (a 1)).2) := by
  rw [lvB]; simp
theorem lv_cmp {s : ByteArray} {m : Nat} (h : ¬ (s = dotS ∧ m = 2)) (n : Int) (a : Nat → T) : (lvB (.mk 4 n s m a)).1 = 1 + supTo m fun i => (lvB (a i)).1 := by
  rw [lvB]; simp only [if_pos, if_neg h]
theorem lv_else {k : Int} {s : ByteArray} {m : Nat} (h1 : ¬ (k = 4 ∧ s = dotS ∧ m = 2)) (h2 : ¬ (k = 3 ∧ s = nilS)) (n : Int) (a : Nat → T) : (lvB (.mk k n s m a)).2 = (lvB (.mk k n s m a)).1 := by
  rw [lvB]
  simp only [if_neg h1, if_neg h2]
/-- So, or too deep. -/
def Ok52 {α : Type} (c : Prop) (r : PR α) (x : α × Nat × List ByteArray) : Prop := r = .ok x ∨ (¬ c ∧ ∃ p, r = .error (p, 52))
theorem Ok52.weak {α : Type} {c c' : Prop} {r : PR α} {x : α × Nat × List ByteArray} (h : Ok52 c r x) (hc : c' → c) : Ok52 c' r x := h.imp id fun h => ⟨fun h' => h.1 (hc h'), h.2⟩
theorem Ok52.bind {c : Prop} {α β : Type} {r : PR α} {a : α} {j : Nat} {ns : List ByteArray} {f : α → Nat → List ByteArray → PR β} {y : β × Nat × List ByteArray} (h : Ok52 c r (a, j, ns)) (h2 : Ok52 c (f a j ns) y) : Ok52 c (r.andThen f) y := by
  rcases h with rfl | ⟨hc, p, rfl⟩
  · exact h2
  · exact .inr ⟨hc, p, rfl⟩
theorem Ok52.pure {c : Prop} {α : Type} (x : α × Nat × List ByteArray) : Ok52 c (.ok x) x := .inl rfl
section
variable {tk : List Tk} {sz : Nat}
theorem nx_at {i : Nat} {x : Tk} {r : List Tk} (h : tk.drop i = x :: r) : nxT tk sz i = x := by
  have hi : i < tk.length := by
    rcases Nat.lt_or_ge i tk.length with h1 | h1
    · exact h1
    · rw [List.drop_eq_nil_of_le h1] at h; cases h
  unfold nxT
  rw [dif_pos hi]
  rw [List.drop_eq_getElem_cons hi] at h
  injection h
theorem nx_none {i : Nat} (h : tk.drop i = []) : (nxT tk sz i).k = 0 := by
  have hi : ¬ i < tk.length := by
    intro hi
    rw [List.drop_eq_getElem_cons hi] at h
    cases h
  unfold nxT
  rw [dif_neg hi]
theorem drop_app {i : Nat} {a b : List Tk} (h : tk.drop i = a ++ b) : tk.drop (i + a.length) = b := by rw [← List.drop_drop, h, List.drop_left]
theorem drop_one {i : Nat} {x : Tk} {b : List Tk} (h : tk.drop i = x :: b) : tk.drop (i + 1) = b := drop_app (a := [x]) h
theorem tk_pos' {i : Nat} {x : Tk} {b : List Tk} (h : tk.drop i = x :: b) : 0 < tk.length := by
  cases tk with
  | nil => simp at h
  | cons => simp
theorem ba_toList (l : List UInt8) : (ba l).toList = l := by rw [ByteArray.toList_eq]; simp [ba]
theorem isM_mk {i : Nat} {x : Tk} {r : List Tk} {c : UInt8} (h : tk.drop i = x :: r) (hx : Mk x c) (d : UInt8) : isM tk sz i ⟨#[d]⟩ = (c == d) := by
  unfold isM
  rw [nx_at h, hx.1, hx.2, ba_toList, show (⟨#[d]⟩ : ByteArray).toList = [d] from by rw [ByteArray.toList_eq]]
  simp
theorem isM_other {i : Nat} {x : Tk} {r : List Tk} (h : tk.drop i = x :: r) (hx : x.k ≠ 5) (m : ByteArray) : isM tk sz i m = false := by
  unfold isM
  rw [nx_at h, beq_eq_false_iff_ne.2 hx]
  rfl
theorem isM_none {i : Nat} (h : tk.drop i = []) (m : ByteArray) : isM tk sz i m = false := by
  unfold isM
  rw [nx_none h]
  rfl
/-- What ends a term. -/
def closeT (most : Int) (rest : List Tk) : Prop := rest = [] ∨ ∃ z r, rest = z :: r ∧ (z.k = 6 ∨ Mk z 41 ∨ Mk z 93 ∨ Mk z 125 ∨ Mk z 124 ∨ (Mk z 44 ∧ most < 1000))
theorem closeT.of {most : Int} {z : Tk} (r : List Tk) (h : z.k = 6 ∨ Mk z 41 ∨ Mk z 93 ∨ Mk z 125 ∨ Mk z 124 ∨ (Mk z 44 ∧ most < 1000)) : closeT most (z :: r) := .inr ⟨z, r, rfl, h⟩
theorem inf_stop {tm : Int → Nat → List ByteArray → PR T} {most : Int} {rest : List Tk} {j : Nat} (hc : closeT most rest) (h : tk.drop j = rest) {f : Nat} (hf : 0 < f) (t : T) (pr : Int) (ns : List ByteArray) :
    infixC tk sz tm most f t pr j ns = .ok (t, j, ns) := by
  obtain ⟨f, rfl⟩ : ∃ g, f = g + 1 := ⟨f - 1, by omega⟩
  have no : (nxT tk sz j).k ≠ 1 → isM tk sz j ⟨#[44]⟩ = false → infixC tk sz tm most (f + 1) t pr j ns = .ok (t, j, ns) := fun h1 h2 => by
    unfold infixC
    dsimp only
    rw [if_pos ⟨h1, h2⟩]
  rcases hc with rfl | ⟨z, r, rfl, hz⟩
  · exact no (by rw [nx_none h]; decide) (isM_none h _)
  · rcases hz with hz | hz | hz | hz | hz | ⟨hz, hm⟩
    · exact no (by rw [nx_at h, hz]; decide) (isM_other h (by rw [hz]; decide) _)
    · exact no (by rw [nx_at h, hz.1]; decide) (isM_mk h hz _)
    · exact no (by rw [nx_at h, hz.1]; decide) (isM_mk h hz _)
    · exact no (by rw [nx_at h, hz.1]; decide) (isM_mk h hz _)
    · exact no (by rw [nx_at h, hz.1]; decide) (isM_mk h hz _)
    · unfold infixC
      dsimp only
      rw [if_neg (by rw [isM_mk h hz]; simp), nx_at h, hz.2, show opIn (ba [44]) = some (1000, 999, 1000) from by decide +kernel]
      dsimp only
      rw [if_pos (.inl hm)]
theorem ends_stop {most : Int} {rest : List Tk} {j : Nat} (hc : closeT most rest) (h : tk.drop j = rest) : endsP tk sz j = true := by
  unfold endsP
  rcases hc with rfl | ⟨z, r, rfl, hz⟩
  · dsimp only
    rw [if_pos (.inl (nx_none h))]
  · rw [nx_at h]
    dsimp only
    rcases hz with hz | hz | hz | hz | hz | ⟨hz, _⟩
    · rw [if_pos (.inr hz)]
    all_goals
      rw [if_neg (by rw [hz.1]; decide), if_pos hz.1, hz.2, ba_toList]
      decide
theorem close_k {most : Int} {rest : List Tk} {j : Nat} (hc : closeT most rest) (h : tk.drop j = rest) : (nxT tk sz j).k ≠ 4 ∧ (nxT tk sz j).k ≠ 3 := by
  rcases hc with rfl | ⟨z, r, rfl, hz⟩
  · rw [nx_none h]; decide
  · rw [nx_at h]
    rcases hz with hz | hz | hz | hz | hz | ⟨hz, _⟩
    · rw [hz]; decide
    all_goals rw [hz.1]; decide
theorem must_mk {α : Type} {i : Nat} {x : Tk} {r : List Tk} {c : UInt8} (h : tk.drop i = x :: r) (hx : Mk x c) (a : α) (ns : List ByteArray) : mustN tk sz ⟨#[c]⟩ a i ns = .ok (a, i + 1, ns) := by
  unfold mustN
  rw [isM_mk h hx, if_pos (by simp)]
theorem zeros_same {c : UInt8} {l : List UInt8} (h : c.toNat ≠ 48) : zerosL (c :: l) = c :: l := by
  cases l with
  | nil => rfl
  | cons d l =>
    rw [zerosL, if_neg (fun e => h (by rw [e]; rfl))]
theorem zeros_dec (u : Nat) : zerosL (Lib.decDigits u) = Lib.decDigits u := by
  by_cases h : u < 10
  · rw [dec_small h]; rfl
  · obtain ⟨c, l, e, h1, _⟩ := dec_head u (by omega)
    rw [e]
    exact zeros_same (by omega)
theorem int_pos {n : Int} (h0 : 0 ≤ n) (h1 : n ≤ 9223372036854775807) : intN (ba (Lib.itoa n)) false = some n := by
  have e : Lib.itoa n = Lib.decDigits n.toNat := by rw [Lib.itoa, if_neg (by omega)]
  unfold intN
  rw [show (ba (Lib.itoa n)).data.toList = Lib.itoa n from by simp [ba], e, zeros_dec, if_neg (by simp), ← e]
  exact parse_itoa (by simp [ba]) (by omega) h1
theorem int_neg {n : Int} (h0 : n < 0) (h1 : -9223372036854775808 ≤ n) : intN (ba (Lib.decDigits n.natAbs)) true = some n := by
  have e : Lib.itoa n = 45 :: Lib.decDigits n.natAbs := by rw [Lib.itoa, if_pos h0]
  have hne : Lib.decDigits n.natAbs ≠ [48] := fun h => by
    obtain ⟨c, l, e2, h2, _⟩ := dec_head n.natAbs (by omega)
    rw [e2] at h
    injection h with h
    rw [h] at h2
    exact absurd h2 (by decide)
  unfold intN
  rw [show (ba (Lib.decDigits n.natAbs)).data.toList = Lib.decDigits n.natAbs from by simp [ba], zeros_dec, if_pos ⟨rfl, hne⟩, ← e]
  exact parse_itoa (by simp [ba]) h1 (by omega)
/-- No term begins with a closing bracket. -/
theorem first_ok {V : Int → List UInt8} {t : T} (hw : t.wr) {tks rest : List Tk} (ht : (tkB V t).1 tks) {i : Nat} (h : tk.drop i = tks ++ rest) : isM tk sz i ⟨#[93]⟩ = false := by
  cases t with
  | nil => exact hw.elim
  | mk k n s m a =>
    rcases hw with ⟨rfl, _⟩ | ⟨rfl, _⟩ | ⟨rfl, _⟩ | ⟨rfl, _⟩
    · rw [tk_var] at ht
      obtain ⟨x, rfl, hk, _⟩ := ht
      exact isM_other h (by rw [hk]; decide) _
    · by_cases h0 : n < 0
      · rw [tk_neg V h0] at ht
        obtain ⟨x, y, rfl, hk, _⟩ := ht
        exact isM_other h (by rw [hk]; decide) _
      · rw [tk_pos V h0] at ht
        obtain ⟨x, rfl, hk, _⟩ := ht
        exact isM_other h (by rw [hk]; decide) _
    · by_cases h1 : s = nilS
      · subst h1
        rw [tk_nil] at ht
        obtain ⟨x, y, rfl, hx, _⟩ := ht
        exact isM_mk h hx 93
      · by_cases h2 : s = curS
        · subst h2
          rw [tk_cur] at ht
          obtain ⟨x, y, rfl, hx, _⟩ := ht
          exact isM_mk h hx 93
        · rw [tk_atom V h1 h2] at ht
          obtain ⟨x, rfl, hk, _⟩ := ht
          exact isM_other h (by rw [hk]; decide) _
    · by_cases hp : s = dotS ∧ m = 2
      · obtain ⟨rfl, rfl⟩ := hp
        rw [tk_pair] at ht
        obtain ⟨x, y, l0, l1, rfl, hx, _⟩ := ht
        exact isM_mk h hx 93
      · rw [tk_cmp V hp] at ht
        obtain ⟨x, y, z, l0, l1, rfl, hk, _⟩ := ht
        exact isM_other h (by rw [hk]; decide) _
theorem list_snoc (acc : List T) (x r : T) : listT (acc ++ [x]) r = listT acc (twoT dotS x r) := by simp [listT]
def TermOk (tk : List Tk) (sz : Nat) (V : Int → List UInt8) (t : T) : Prop := ∀ (tks : List Tk), (tkB V t).1 tks → ∀ (d : Nat) (i : Nat) (ns : List ByteArray) (most : Int) (rest : List Tk), tk.drop i = tks ++ rest → 999 ≤ most → closeT most rest →
  Ok52 ((lvB t).1 ≤ d) (termP tk sz d most i ns) ((rnT V t ns).1, i + tks.length, (rnT V t ns).2)
/-- What a list comes to behind some of its elements. -/
def listK (tk : List Tk) (sz : Nat) (d : Nat) (l : List T) (j : Nat) (ns1 : List ByteArray) : PR T :=
  if isM tk sz j ⟨#[124]⟩ then (termP tk sz d 999 (j + 1) ns1).andThen fun r j2 ns2 => mustN tk sz ⟨#[93]⟩ (listT l r) j2 ns2 else mustN tk sz ⟨#[93]⟩ (listT l (atT nilS)) j ns1
def TailOk (tk : List Tk) (sz : Nat) (V : Int → List UInt8) (t : T) : Prop := ∀ (tks : List Tk), (tkB V t).2 tks → ∀ (d : Nat) (i : Nat) (ns : List ByteArray) (acc : List T) (f : Nat) (z : Tk) (rest : List Tk), tk.drop i = tks ++ z :: rest → Mk z 93 → tks.length < f →
  Ok52 ((lvB t).2 ≤ d) ((rowC tk sz (termP tk sz d) f acc i ns).andThen (listK tk sz d)) (listT acc (rnT V t ns).1, i + tks.length + 1, (rnT V t ns).2)
theorem rest_ok {c : Prop} {V : Int → List UInt8} {a : Nat → T} {d : Nat} : ∀ (r j : Nat) (tks : List Tk), (∀ i, i < j + r → TermOk tk sz V (a i) ∧ (c → (lvB (a i)).1 ≤ d)) → restTk (fun i => (tkB V (a i)).1) j r tks → ∀ (i : Nat) (ns : List ByteArray) (acc : List T) (f : Nat) (z : Tk) (rest : List Tk),
    tk.drop i = tks ++ z :: rest → Mk z 41 → tks.length < f →
    Ok52 c (rowC tk sz (termP tk sz d) f acc i ns) (acc ++ (rnRow (fun i => rnT V (a i)) j r ns).1, i + tks.length, (rnRow (fun i => rnT V (a i)) j r ns).2)
  | 0, j, tks, _, ht, i, ns, acc, f, z, rest, h, hz, hf => by
    obtain rfl : tks = [] := ht
    obtain ⟨f, rfl⟩ : ∃ g, f = g + 1 := ⟨f - 1, by omega⟩
    unfold rowC
    rw [isM_mk h hz]
    simp only [rnRow, List.append_nil, List.length_nil, Nat.add_zero]
    exact .inl rfl
  | r + 1, j, tks, ih, ht, i, ns, acc, f, z, rest, h, hz, hf => by
    obtain ⟨c, l0, l1, rfl, hc, h0, h1⟩ := ht
    obtain ⟨f, rfl⟩ : ∃ g, f = g + 1 := ⟨f - 1, by omega⟩
    simp only [List.cons_append, List.append_assoc] at h
    simp only [List.length_cons, List.length_append] at hf
    unfold rowC
    rw [isM_mk h hc, if_pos (by decide)]
    have hd := drop_one h
    have st : closeT 999 (l1 ++ z :: rest) := by
      cases r with
      | zero =>
        obtain rfl : l1 = [] := h1
        exact closeT.of _ (.inr (.inl hz))
      | succ r =>
        obtain ⟨c', l2, l3, rfl, hc', _⟩ := h1
        exact closeT.of _ (.inr (.inr (.inr (.inr (.inr ⟨hc', by decide⟩)))))
    refine Ok52.bind (((ih j (by omega)).1 l0 h0 d (i + 1) ns 999 _ hd (by decide) st).weak (ih j (by omega)).2) ?_
    have := rest_ok (d := d) r (j + 1) l1 (fun i hi => ih i (by omega)) h1 (i + 1 + l0.length) (rnT V (a j) ns).2 (acc ++ [(rnT V (a j) ns).1]) f z rest (drop_app hd) hz (by omega)
    simp only [rnRow, List.append_assoc, List.cons_append, List.nil_append] at this ⊢
    rw [show i + (c :: (l0 ++ l1)).length = i + 1 + l0.length + l1.length by simp only [List.length_cons, List.length_append]; omega]
    exact this
theorem term_ok {V : Int → List UInt8} : ∀ (t : T), t.wr → TermOk tk sz V t ∧ TailOk tk sz V t := by
  intro t
  induction t with
  | nil => exact fun h => h.elim
  | mk k n s m a ih =>
    intro hw
    have main : TermOk tk sz V (.mk k n s m a) := by
      intro tks ht d i ns most rest h hm hc
      cases d with
      | zero => exact .inr ⟨by have := lv_pos (.mk k n s m a); omega, _, rfl⟩
      | succ d =>
        -- what stands ahead of the operators
        have oper : ∀ (t' : T) (pr : Int) (ns' : List ByteArray) (x : Tk) (r : List Tk), tk.drop i = x :: r → Ok52 ((lvB (.mk k n s m a)).1 ≤ d + 1) (operandP tk sz (termP tk sz d) most i ns) ((t', pr), i + tks.length, ns') → Ok52 ((lvB (.mk k n s m a)).1 ≤ d + 1) (termP tk sz (d + 1) most i ns) (t', i + tks.length, ns') := fun t' pr ns' x r hx ho => by
          unfold termP
          refine Ok52.bind ho ?_
          rw [inf_stop hc (drop_app h) (tk_pos' hx)]
          exact .inl rfl
        rcases hw with ⟨rfl, hn⟩ | ⟨rfl, hn⟩ | ⟨rfl, hq⟩ | ⟨rfl, hq, hm0, hwa⟩
        · rw [tk_var] at ht
          obtain ⟨x, rfl, h1, h2⟩ := ht
          refine oper _ 0 _ x rest h ?_
          unfold operandP
          rw [nx_at (h : tk.drop i = x :: rest)]
          dsimp only
          rw [if_neg (by rw [h1]; decide), if_pos h1, h2, rn_var]
          exact .inl rfl
        · rw [rn_int]
          by_cases h0 : n < 0
          · rw [tk_neg V h0] at ht
            obtain ⟨x, y, rfl, h1, h2, h3, h4, h5⟩ := ht
            have h : tk.drop i = x :: y :: rest := h
            refine oper _ 0 _ x _ h ?_
            unfold operandP
            rw [nx_at h]
            dsimp only
            rw [if_neg (by rw [h1]; decide), if_neg (by rw [h1]; decide), isM_other h (by rw [h1]; decide), isM_other h (by rw [h1]; decide), isM_other h (by rw [h1]; decide), if_neg (by rw [h1]; decide), if_neg (by decide), if_neg (by decide), if_pos h1]
            unfold namedP
            rw [nx_at (drop_one h)]
            dsimp only
            rw [if_neg (by rw [h3]; decide), if_pos ⟨by rw [h2, ba_toList], h3, h5⟩]
            unfold intP
            rw [h4, int_neg h0 hn.1]
            exact .inl rfl
          · rw [tk_pos V h0] at ht
            obtain ⟨x, rfl, h1, h2⟩ := ht
            have h : tk.drop i = x :: rest := h
            refine oper _ 0 _ x _ h ?_
            unfold operandP
            rw [nx_at h]
            dsimp only
            rw [if_pos h1]
            unfold intP
            rw [h2, int_pos (by omega) hn.2]
            exact .inl rfl
        · rw [rn_atom]
          by_cases h1 : s = nilS
          · subst h1
            rw [tk_nil] at ht
            obtain ⟨x, y, rfl, hx, hy⟩ := ht
            have h : tk.drop i = x :: y :: rest := h
            refine oper _ 0 _ x _ h ?_
            unfold operandP
            rw [nx_at h]
            dsimp only
            rw [if_neg (by rw [hx.1]; decide), if_neg (by rw [hx.1]; decide), isM_mk h hx, isM_mk h hx, isM_mk h hx, if_neg (by rw [hx.1]; decide), if_pos (by decide)]
            unfold listP
            rw [isM_mk (drop_one h) hy, if_pos (by decide)]
            exact .inl rfl
          · by_cases h2 : s = curS
            · subst h2
              rw [tk_cur] at ht
              obtain ⟨x, y, rfl, hx, hy⟩ := ht
              have h : tk.drop i = x :: y :: rest := h
              refine oper _ 0 _ x _ h ?_
              unfold operandP
              rw [nx_at h]
              dsimp only
              rw [if_neg (by rw [hx.1]; decide), if_neg (by rw [hx.1]; decide), isM_mk h hx, isM_mk h hx, isM_mk h hx, if_neg (by rw [hx.1]; decide), if_neg (by decide), if_pos (by decide), isM_mk (drop_one h) hy, if_pos (by decide)]
              exact .inl rfl
            · rw [tk_atom V h1 h2] at ht
              obtain ⟨x, rfl, h3, h4⟩ := ht
              have h : tk.drop i = x :: rest := h
              refine oper _ 0 _ x _ h ?_
              unfold operandP
              rw [nx_at h]
              dsimp only
              rw [if_neg (by rw [h3]; decide), if_neg (by rw [h3]; decide), isM_other h (by rw [h3]; decide), isM_other h (by rw [h3]; decide), isM_other h (by rw [h3]; decide), if_neg (by rw [h3]; decide), if_neg (by decide), if_neg (by decide), if_pos h3]
              unfold namedP
              obtain ⟨c4, c3⟩ := close_k (sz := sz) hc (drop_one h)
              dsimp only
              rw [if_neg c4, if_neg (fun e => c3 e.2.1), h4]
              cases ho : opPre s with
              | none => exact .inl rfl
              | some q =>
                obtain ⟨p1, p2⟩ := q
                dsimp only
                rw [if_neg (by rw [ends_stop hc (drop_one h)]; simp)]
                exact .inl rfl
        · by_cases hp : s = dotS ∧ m = 2
          · obtain ⟨rfl, rfl⟩ := hp
            rw [tk_pair] at ht
            obtain ⟨x, y, l0, l1, rfl, hx, hy, h0, h1⟩ := ht
            simp only [List.cons_append, List.append_assoc, List.nil_append] at h
            refine oper _ 0 _ x _ h ?_
            unfold operandP
            rw [nx_at h]
            dsimp only
            have hd := drop_one h
            rw [if_neg (by rw [hx.1]; decide), if_neg (by rw [hx.1]; decide), isM_mk h hx, isM_mk h hx, isM_mk h hx, if_neg (by rw [hx.1]; decide), if_pos (by decide)]
            have st : closeT 999 (l1 ++ y :: rest) := by
              cases hu : a 1 with
              | nil => have := hwa 1 (by omega); rw [hu] at this; exact this.elim
              | mk k' n' s' m' a' =>
                rw [hu] at h1
                by_cases hp' : k' = 4 ∧ s' = dotS ∧ m' = 2
                · obtain ⟨rfl, rfl, rfl⟩ := hp'
                  rw [tl_pair] at h1
                  obtain ⟨c, l2, l3, rfl, hc', _⟩ := h1
                  exact closeT.of _ (.inr (.inr (.inr (.inr (.inr ⟨hc', by decide⟩)))))
                · by_cases hn' : k' = 3 ∧ s' = nilS
                  · obtain ⟨rfl, rfl⟩ := hn'
                    rw [tl_nil] at h1
                    subst h1
                    exact closeT.of _ (.inr (.inr (.inl hy)))
                  · rw [tl_else V hp' hn'] at h1
                    obtain ⟨c, l2, rfl, hc', _⟩ := h1
                    exact closeT.of _ (.inr (.inr (.inr (.inr (.inl hc')))))
            have hlen : l1.length < tk.length := by
              have := congrArg List.length (drop_app hd)
              simp only [List.length_drop, List.length_append, List.length_cons] at this
              omega
            have hT := (ih 1 (hwa 1 (by omega))).2 l1 h1 d (i + 1 + l0.length) (rnT V (a 0) ns).2 [(rnT V (a 0) ns).1] tk.length y rest (drop_app hd) hy hlen
            have hlv := lv_pair n a
            have hL : Ok52 ((lvB (.mk 4 n dotS 2 a)).1 ≤ d + 1) (listP tk sz (termP tk sz d) (i + 1) ns) (twoT dotS (rnT V (a 0) ns).1 (rnT V (a 1) (rnT V (a 0) ns).2).1, i + 1 + l0.length + l1.length + 1, (rnT V (a 1) (rnT V (a 0) ns).2).2) := by
              unfold listP
              rw [first_ok (hwa 0 (by omega)) h0 hd, if_neg (by decide)]
              unfold rowP
              have hA := (ih 0 (hwa 0 (by omega))).1 l0 h0 d (i + 1) ns 999 _ hd (by decide) st
              rcases hA with hA | ⟨hc, p, hA⟩
              · rw [hA]
                exact hT.weak (by rw [hlv]; dsimp only; omega)
              · rw [hA]
                exact .inr ⟨by rw [hlv]; dsimp only; omega, p, rfl⟩
            rw [rn_pair, show i + (x :: (l0 ++ (l1 ++ [y]))).length = i + 1 + l0.length + l1.length + 1 by simp only [List.length_cons, List.length_append, List.length_nil]; omega]
            exact Ok52.bind hL (.inl rfl)
          · rw [tk_cmp V hp] at ht
            obtain ⟨x, y, z, l0, l1, rfl, h1, h2, h3, hz, h0, hr⟩ := ht
            simp only [List.cons_append, List.append_assoc, List.nil_append] at h
            refine oper _ 0 _ x _ h ?_
            unfold operandP
            rw [nx_at h]
            dsimp only
            have hd := drop_one h
            have hd2 := drop_one hd
            rw [if_neg (by rw [h1]; decide), if_neg (by rw [h1]; decide), isM_other h (by rw [h1]; decide), isM_other h (by rw [h1]; decide), isM_other h (by rw [h1]; decide), if_neg (by rw [h1]; decide), if_neg (by decide), if_neg (by decide), if_pos h1]
            unfold namedP
            rw [nx_at hd]
            dsimp only
            rw [if_pos h3]
            have st : closeT 999 (l1 ++ z :: rest) := by
              cases hm1 : m - 1 with
              | zero =>
                rw [hm1] at hr
                obtain rfl : l1 = [] := hr
                exact closeT.of _ (.inr (.inl hz))
              | succ r =>
                rw [hm1] at hr
                obtain ⟨c', l2, l3, rfl, hc', _⟩ := hr
                exact closeT.of _ (.inr (.inr (.inr (.inr (.inr ⟨hc', by decide⟩)))))
            have hlen : l1.length < tk.length := by
              have := congrArg List.length (drop_app hd2)
              simp only [List.length_drop, List.length_append, List.length_cons] at this
              omega
            have hlv := lv_cmp hp n a
            have hlt : ∀ i, i < m → (lvB (.mk 4 n s m a)).1 ≤ d + 1 → (lvB (a i)).1 ≤ d := fun i hi h => by
              have := sup_ge (f := fun i => (lvB (a i)).1) hi
              rw [hlv] at h
              omega
            have hR : Ok52 ((lvB (.mk 4 n s m a)).1 ≤ d + 1) (rowP tk sz (termP tk sz d) (i + 1 + 1) ns) ((rnT V (a 0) ns).1 :: (rnRow (fun i => rnT V (a i)) 1 (m - 1) (rnT V (a 0) ns).2).1, i + 1 + 1 + l0.length + l1.length, (rnRow (fun i => rnT V (a i)) 1 (m - 1) (rnT V (a 0) ns).2).2) := by
              unfold rowP
              exact Ok52.bind (((ih 0 (hwa 0 hm0)).1 l0 h0 d (i + 1 + 1) ns 999 _ hd2 (by decide) st).weak (hlt 0 hm0))
                (rest_ok (m - 1) 1 l1 (fun i hi => ⟨(ih i (hwa i (by omega))).1, hlt i (by omega)⟩) hr (i + 1 + 1 + l0.length) (rnT V (a 0) ns).2 [(rnT V (a 0) ns).1] tk.length z rest (drop_app hd2) hz hlen)
            rw [rn_cmp V hp, show i + (x :: y :: (l0 ++ (l1 ++ [z]))).length = i + 1 + 1 + l0.length + l1.length + 1 by simp only [List.length_cons, List.length_append, List.length_nil]; omega]
            refine Ok52.bind hR ?_
            rw [must_mk (drop_app (drop_app hd2)) hz, h2]
            exact .inl rfl
    refine ⟨main, ?_⟩
    intro tks ht d i ns acc f z rest h hz hf
    obtain ⟨f, rfl⟩ : ∃ g, f = g + 1 := ⟨f - 1, by omega⟩
    by_cases hp : k = 4 ∧ s = dotS ∧ m = 2
    · obtain ⟨rfl, rfl, rfl⟩ := hp
      have hwa : ∀ i, i < 2 → (a i).wr := by
        rcases hw with ⟨h, _⟩ | ⟨h, _⟩ | ⟨h, _⟩ | h
        · exact absurd h (by decide)
        · exact absurd h (by decide)
        · exact absurd h (by decide)
        · exact h.2.2.2
      rw [tl_pair] at ht
      obtain ⟨c, l0, l1, rfl, hc, h0, h1⟩ := ht
      simp only [List.cons_append, List.append_assoc] at h
      simp only [List.length_cons, List.length_append] at hf
      have hd := drop_one h
      have st : closeT 999 (l1 ++ z :: rest) := by
        cases hu : a 1 with
        | nil => have := hwa 1 (by omega); rw [hu] at this; exact this.elim
        | mk k' n' s' m' a' =>
          rw [hu] at h1
          by_cases hp' : k' = 4 ∧ s' = dotS ∧ m' = 2
          · obtain ⟨rfl, rfl, rfl⟩ := hp'
            rw [tl_pair] at h1
            obtain ⟨c, l2, l3, rfl, hc', _⟩ := h1
            exact closeT.of _ (.inr (.inr (.inr (.inr (.inr ⟨hc', by decide⟩)))))
          · by_cases hn' : k' = 3 ∧ s' = nilS
            · obtain ⟨rfl, rfl⟩ := hn'
              rw [tl_nil] at h1
              subst h1
              exact closeT.of _ (.inr (.inr (.inl hz)))
            · rw [tl_else V hp' hn'] at h1
              obtain ⟨c, l2, rfl, hc', _⟩ := h1
              exact closeT.of _ (.inr (.inr (.inr (.inr (.inl hc')))))
      have hA := (ih 0 (hwa 0 (by omega))).1 l0 h0 d (i + 1) ns 999 _ hd (by decide) st
      have hT := (ih 1 (hwa 1 (by omega))).2 l1 h1 d (i + 1 + l0.length) (rnT V (a 0) ns).2 (acc ++ [(rnT V (a 0) ns).1]) f z rest (drop_app hd) hz (by omega)
      rw [list_snoc] at hT
      unfold rowC
      rw [isM_mk h hc, if_pos (by decide), rn_pair, show i + (c :: (l0 ++ l1)).length + 1 = i + 1 + l0.length + l1.length + 1 by simp only [List.length_cons, List.length_append]; omega]
      have hlv := lv_pair n a
      rcases hA with hA | ⟨hc, p, hA⟩
      · rw [hA]
        exact hT.weak (by rw [hlv]; dsimp only; omega)
      · rw [hA]
        exact .inr ⟨by rw [hlv]; dsimp only; omega, p, rfl⟩
    · by_cases h2 : k = 3 ∧ s = nilS
      · obtain ⟨rfl, rfl⟩ := h2
        rw [tl_nil] at ht
        subst ht
        have h : tk.drop i = z :: rest := h
        unfold rowC
        rw [isM_mk h hz, if_neg (by decide), rn_atom]
        show Ok52 _ (listK tk sz d acc i ns) _
        unfold listK
        rw [isM_mk h hz, if_neg (by decide), must_mk h hz]
        exact .inl rfl
      · rw [tl_else V hp h2] at ht
        obtain ⟨c, l0, rfl, hc, h0⟩ := ht
        have h : tk.drop i = c :: (l0 ++ z :: rest) := h
        have hd := drop_one h
        unfold rowC
        rw [isM_mk h hc, if_neg (by decide)]
        show Ok52 _ (listK tk sz d acc i ns) _
        unfold listK
        rw [isM_mk h hc, if_pos (by decide), show i + (c :: l0).length + 1 = i + 1 + l0.length + 1 by simp only [List.length_cons]; omega]
        rw [lv_else hp h2]
        refine Ok52.bind (main l0 h0 d (i + 1) ns 999 _ hd (by decide) (closeT.of _ (.inr (.inr (.inl hz))))) ?_
        rw [must_mk (drop_app hd) hz]
        exact .inl rfl
end
end Go.Proofs.YtiefbdblefliaaaDoor
