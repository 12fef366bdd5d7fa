/- The texts of ReadOperators, plainly. Plain facts on texts that are joined: a text with a blank behind it; two texts that are the same from two places on. Plain facts on quoting: which names stand without quotes; what a quoted name is read as. Terms that can be written, plain. Terms' texts, plain: what is written; what tokens it has; no program in sight. Terms' texts, plain: the tokens of a term's text are read as the term, its variables numbered; or it stands too deep. Terms' texts, plain: a term's text, ahead of something that ends it, has the term's tokens. A written text, read back: plain. Texts that are read, plainly: from their tokens; the texts of ReadNumbers. The texts of ReadLists, plainly. -/
import Derived.Test.YtlogcealmiokkaaGreatDoorKRd14
import Derived.Test.YtlogcealmiokkaaGreatDoorKGb
import Derived.Test.YtlogcealmiokkaaGreatDoorKLp0
import Derived.Test.YtlogcealmiokkaaGreatDoorKRd6
namespace Go.Proofs.YtlogcealmiokkaaGreatDoor
open Go.RowKit
def opL : List (List UInt8) := [[58, 45], [59], [45, 62], [44], [35, 60, 61, 62], [61], [105, 115], [105, 110], [92, 47], [46, 46], [43], [45], [42], [109, 111, 100], [94]]
def opText (f g : List UInt8) : ByteArray := ba ([97, 32] ++ f ++ [32, 98, 32] ++ g ++ [32, 99])
def opSaid (f g : List UInt8) : Bool := match opIn (ba f), opIn (ba g) with
 | some (p, l, r), some (q, u, o) =>
  let inner := decide (q ≤ r)
  let outer := decide (p ≤ u) && !inner
  match sentN (opText f g) with
  | .error (_, e) => e != 0 && (decide (o < 0) || decide (l < 0) || !inner && !outer)
  | .ok (.mk _ _ s m a, _) => !(decide (o < 0) || decide (l < 0) || !inner && !outer) && m == 2 && (if inner then s.data.toList == f && (match a 1 with | .mk _ _ s _ _ => s.data.toList == g | .nil => false) else s.data.toList == g && (match a 0 with | .mk _ _ s _ _ => s.data.toList == f | .nil => false))
  | .ok (.nil, _) => false
 | _, _ => false
set_option maxRecDepth 100000 in
theorem op_all : ∀ f ∈ opL, ∀ g ∈ opL, opSaid f g = true := by decide +kernel
end Go.Proofs.YtlogcealmiokkaaGreatDoor
namespace Go.Proofs.YtlogcealmiokkaaGreatDoor
structure Alike (u u' : ByteArray) (o o' n : Nat) : Prop where
 su : u.size = o + n
 su' : u'.size = o' + n
 eq : ∀ i, bu u (o + i) = bu u' (o' + i)
theorem Alike.bn {u u' : ByteArray} {o o' n : Nat} (h : Alike u u' o o' n) (i : Nat) : bn u (o + i) = bn u' (o' + i) := by
 rw [bn_bu, bn_bu, h.eq]
theorem Alike.two {u u' : ByteArray} {o o' n : Nat} (h : Alike u u' o o' n) (i : Nat) (a b : Int) : twoB u (o + i) a b = twoB u' (o' + i) a b := by
 have h1 := h.su
 have h2 := h.su'
 have h3 := h.bn (i + 1)
 rw [← Nat.add_assoc, ← Nat.add_assoc] at h3
 have h4 : decide (o + i + 1 < u.size) = decide (o' + i + 1 < u'.size) := decide_eq_decide.2 (by omega)
 unfold twoB
 rw [h.bn i, h3, h4]
theorem Alike.runF {u u' : ByteArray} {o o' n : Nat} (h : Alike u u' o o' n) : ∀ (f : Nat) (k : Int) (j : Nat), ∃ d, runF f k u (o + j) = o + d ∧ Go.Proofs.YtlogcealmiokkaaGreatDoor.runF f k u' (o' + j) = o' + d ∧ j ≤ d
 | 0, _, j => ⟨j, rfl, rfl, Nat.le_refl _⟩
 | f + 1, k, j => by
  unfold Go.Proofs.YtlogcealmiokkaaGreatDoor.runF
  rw [h.bn j]
  split
  ·obtain ⟨d, h1, h2, h3⟩ := h.runF f k (j + 1)
   exact ⟨d, h1, h2, by omega⟩
  ·exact ⟨j, rfl, rfl, Nat.le_refl _⟩
theorem Alike.runN {u u' : ByteArray} {o o' n : Nat} (h : Alike u u' o o' n) (k : Int) (j : Nat) : ∃ d, runN k u (o + j) = o + d ∧ Go.Proofs.YtlogcealmiokkaaGreatDoor.runN k u' (o' + j) = o' + d ∧ j ≤ d := by
 have h1 := h.su
 have h2 := h.su'
 have e1 : u.size - (o + j) = n - j := by omega
 have e2 : u'.size - (o' + j) = n - j := by omega
 unfold Go.Proofs.YtlogcealmiokkaaGreatDoor.runN
 rw [e1, e2]
 exact h.runF _ k j
theorem Alike.lineF {u u' : ByteArray} {o o' n : Nat} (h : Alike u u' o o' n) : ∀ (f : Nat) (j : Nat), ∃ d, lineF f u (o + j) = o + d ∧ Go.Proofs.YtlogcealmiokkaaGreatDoor.lineF f u' (o' + j) = o' + d ∧ j ≤ d
 | 0, j => ⟨j, rfl, rfl, Nat.le_refl _⟩
 | f + 1, j => by
  unfold Go.Proofs.YtlogcealmiokkaaGreatDoor.lineF
  rw [h.bn j]
  split
  ·obtain ⟨d, h1, h2, h3⟩ := h.lineF f (j + 1)
   exact ⟨d, h1, h2, by omega⟩
  ·exact ⟨j, rfl, rfl, Nat.le_refl _⟩
theorem Alike.lineN {u u' : ByteArray} {o o' n : Nat} (h : Alike u u' o o' n) (j : Nat) : ∃ d, lineN u (o + j) = o + d ∧ Go.Proofs.YtlogcealmiokkaaGreatDoor.lineN u' (o' + j) = o' + d ∧ j ≤ d := by
 have h1 := h.su
 have h2 := h.su'
 have e1 : u.size - (o + j) = n - j := by omega
 have e2 : u'.size - (o' + j) = n - j := by omega
 unfold Go.Proofs.YtlogcealmiokkaaGreatDoor.lineN
 rw [e1, e2]
 exact h.lineF _ j
theorem Alike.endF {u u' : ByteArray} {o o' n : Nat} (h : Alike u u' o o' n) : ∀ (f : Nat) (j : Nat), ∃ d, endF f u (o + j) = o + d ∧ Go.Proofs.YtlogcealmiokkaaGreatDoor.endF f u' (o' + j) = o' + d ∧ j ≤ d
 | 0, j => ⟨j, rfl, rfl, Nat.le_refl _⟩
 | f + 1, j => by
  unfold Go.Proofs.YtlogcealmiokkaaGreatDoor.endF
  rw [h.two j]
  split
  ·exact ⟨j, rfl, rfl, Nat.le_refl _⟩
  ·obtain ⟨d, h1, h2, h3⟩ := h.endF f (j + 1)
   exact ⟨d, h1, h2, by omega⟩
theorem Alike.endN {u u' : ByteArray} {o o' n : Nat} (h : Alike u u' o o' n) (j : Nat) : ∃ d, endN u (o + j) = o + d ∧ Go.Proofs.YtlogcealmiokkaaGreatDoor.endN u' (o' + j) = o' + d ∧ j ≤ d := by
 have h1 := h.su
 have h2 := h.su'
 have e1 : u.size - (o + j) = n - j := by omega
 have e2 : u'.size - (o' + j) = n - j := by omega
 unfold Go.Proofs.YtlogcealmiokkaaGreatDoor.endN
 rw [e1, e2]
 exact h.endF _ j
theorem Alike.betF {u u' : ByteArray} {o o' n : Nat} (h : Alike u u' o o' n) : ∀ (f : Nat) (j : Nat), ∃ d b, betF f u (o + j) = (o + d, b) ∧ Go.Proofs.YtlogcealmiokkaaGreatDoor.betF f u' (o' + j) = (o' + d, b) ∧ j ≤ d
 | 0, j => ⟨j, true, rfl, rfl, Nat.le_refl _⟩
 | f + 1, j => by
  have h1 := h.su
  have h2 := h.su'
  unfold Go.Proofs.YtlogcealmiokkaaGreatDoor.betF
  rw [h.bn j, h.two j]
  by_cases hj : j < n
  ·rw [if_pos (by omega : o + j < u.size), if_pos (by omega : o' + j < u'.size)]
   split
   ·obtain ⟨d, b, h3, h4, h5⟩ := h.betF f (j + 1)
    exact ⟨d, b, h3, h4, by omega⟩
   ·split
    ·obtain ⟨c, h3, h4, h5⟩ := h.lineN j
     rw [h3, h4]
     obtain ⟨d, b, h6, h7, h8⟩ := h.betF f c
     exact ⟨d, b, h6, h7, by omega⟩
    ·split
     ·obtain ⟨c, h3, h4, h5⟩ := h.endN (j + 2)
      rw [← Nat.add_assoc] at h3 h4
      rw [h3, h4]
      by_cases hc : c < n
      ·rw [if_pos (by omega : o + c < u.size), if_pos (by omega : o' + c < u'.size)]
       obtain ⟨d, b, h6, h7, h8⟩ := h.betF f (c + 2)
       exact ⟨d, b, h6, h7, by omega⟩
      ·rw [if_neg (by omega : ¬ o + c < u.size), if_neg (by omega : ¬ o' + c < u'.size)]
       exact ⟨j, false, rfl, rfl, Nat.le_refl _⟩
     ·exact ⟨j, true, rfl, rfl, Nat.le_refl _⟩
  ·rw [if_neg (by omega : ¬ o + j < u.size), if_neg (by omega : ¬ o' + j < u'.size)]
   exact ⟨j, true, rfl, rfl, Nat.le_refl _⟩
theorem Alike.betN {u u' : ByteArray} {o o' n : Nat} (h : Alike u u' o o' n) (j : Nat) : ∃ d b, betN u (o + j) = (o + d, b) ∧ Go.Proofs.YtlogcealmiokkaaGreatDoor.betN u' (o' + j) = (o' + d, b) ∧ j ≤ d := by
 have h1 := h.su
 have h2 := h.su'
 have e1 : u.size - (o + j) = n - j := by omega
 have e2 : u'.size - (o' + j) = n - j := by omega
 unfold Go.Proofs.YtlogcealmiokkaaGreatDoor.betN
 rw [e1, e2]
 exact h.betF _ j
theorem Alike.quoF {u u' : ByteArray} {o o' n : Nat} (h : Alike u u' o o' n) : ∀ (f i k : Nat) (b : List UInt8), (∃ t p, quoF f u (o + i) (o + k) b = .ok t (o + p) ∧ Go.Proofs.YtlogcealmiokkaaGreatDoor.quoF f u' (o' + i) (o' + k) b = .ok t (o' + p)) ∨
 ∃ p e, Go.Proofs.YtlogcealmiokkaaGreatDoor.quoF f u (o + i) (o + k) b = .bad (o + p) e ∧ Go.Proofs.YtlogcealmiokkaaGreatDoor.quoF f u' (o' + i) (o' + k) b = .bad (o' + p) e
 | 0, i, _, _ => .inr ⟨i, 31, rfl, rfl⟩
 | f + 1, i, k, b => by
  have h1 := h.su
  have h2 := h.su'
  have e1 := h.bn (k + 1)
  have e2 := h.eq (k + 1)
  rw [← Nat.add_assoc, ← Nat.add_assoc] at e1 e2
  unfold Go.Proofs.YtlogcealmiokkaaGreatDoor.quoF
  rw [h.bn k, h.two k, e1, e2, h.eq k]
  by_cases hk : k < n
  ·rw [if_pos (by omega : o + k < u.size), if_pos (by omega : o' + k < u'.size)]
   split
   ·exact h.quoF f i (k + 2) _
   ·split
    ·exact .inl ⟨b, k + 1, rfl, rfl⟩
    ·split
     ·by_cases hk1 : k + 1 = n
      ·rw [if_pos (by omega : o + k + 1 = u.size), if_pos (by omega : o' + k + 1 = u'.size)]
       exact .inr ⟨i, 31, rfl, rfl⟩
      ·rw [if_neg (by omega : ¬ o + k + 1 = u.size), if_neg (by omega : ¬ o' + k + 1 = u'.size)]
       split
       ·exact h.quoF f i (k + 2) _
       ·split
        ·exact h.quoF f i (k + 2) _
        ·split
         ·exact h.quoF f i (k + 2) _
         ·exact .inr ⟨k, 32, rfl, rfl⟩
     ·split
      ·exact .inr ⟨k, 30, rfl, rfl⟩
      ·exact h.quoF f i (k + 1) _
  ·rw [if_neg (by omega : ¬ o + k < u.size), if_neg (by omega : ¬ o' + k < u'.size)]
   exact .inr ⟨i, 31, rfl, rfl⟩
theorem Alike.quoN {u u' : ByteArray} {o o' n : Nat} (h : Alike u u' o o' n) (i k : Nat) (b : List UInt8) : (∃ t p, quoN u (o + i) (o + k) b = .ok t (o + p) ∧ Go.Proofs.YtlogcealmiokkaaGreatDoor.quoN u' (o' + i) (o' + k) b = .ok t (o' + p)) ∨
 ∃ p e, Go.Proofs.YtlogcealmiokkaaGreatDoor.quoN u (o + i) (o + k) b = .bad (o + p) e ∧ Go.Proofs.YtlogcealmiokkaaGreatDoor.quoN u' (o' + i) (o' + k) b = .bad (o' + p) e := by
 have h1 := h.su
 have h2 := h.su'
 have e1 : u.size - (o + k) = n - k := by omega
 have e2 : u'.size - (o' + k) = n - k := by omega
 unfold Go.Proofs.YtlogcealmiokkaaGreatDoor.quoN
 rw [e1, e2]
 exact h.quoF _ i k b
def HP (o o' : Nat) (q : Bool) (r r' : Option (Int × Nat)) : Prop := (r = none ∧ r' = none) ∨ ∃ K j j', r = some (K, j) ∧ r' = some (K, j') ∧ (q = false → ∃ d, j = o + d ∧ j' = o' + d)
theorem HP.ite {o o' : Nat} {q : Bool} {c : Prop} [Decidable c] {a b a' b' : Option (Int × Nat)} (h1 : c → HP o o' q a a') (h2 : ¬c → HP o o' q b b') : HP o o' q (if c then a else b) (if c then a' else b') := by
 by_cases h : c
 ·rw [if_pos h, if_pos h]; exact h1 h
 ·rw [if_neg h, if_neg h]; exact h2 h
theorem HP.mk {o o' : Nat} {q : Bool} (K : Int) (d : Nat) : HP o o' q (some (K, o + d)) (some (K, o' + d)) := .inr ⟨K, _, _, rfl, rfl, fun _ => ⟨d, rfl, rfl⟩⟩
theorem Alike.headN {u u' : ByteArray} {o o' n : Nat} (h : Alike u u' o o' n) (f : Nat) (q q' : Option Tk) (ho : opens q (o + f) = opens q' (o' + f)) :
 HP o o' ((Go.Proofs.YtlogcealmiokkaaGreatDoor.bn u' (o' + f) : Int) == 39) (headN u (o + f) q) (Go.Proofs.YtlogcealmiokkaaGreatDoor.headN u' (o' + f) q') := by
 have h1 := h.su
 have h2 := h.su'
 have e1 := h.bn (f + 1)
 rw [← Nat.add_assoc, ← Nat.add_assoc] at e1
 have e3 : decide (o + f + 1 = u.size) = decide (o' + f + 1 = u'.size) := decide_eq_decide.2 (by omega)
 obtain ⟨d1, a1, a2, _⟩ := h.runN 1 f
 obtain ⟨d2, a3, a4, _⟩ := h.runN 2 f
 obtain ⟨d3, a5, a6, _⟩ := h.runN 3 f
 unfold Go.Proofs.YtlogcealmiokkaaGreatDoor.headN
 rw [h.bn f, e1, e3, ho, a1, a2, a3, a4, a5, a6]
 refine HP.ite (fun _ => HP.mk 6 (f + 1)) fun _ => HP.ite (fun _ => HP.mk 1 d1) fun _ => HP.ite (fun _ => HP.mk 2 d1) fun _ => HP.ite (fun _ => HP.mk 3 d2) fun _ => HP.ite (fun _ => HP.mk 1 d3) fun _ => HP.ite (fun _ => HP.mk 1 (f + 1)) fun _ => HP.ite (fun h39 => ?_) fun _ => HP.ite (fun _ => HP.mk _ (f + 1)) fun _ => .inl ⟨rfl, rfl⟩
 exact .inr ⟨1, _, _, rfl, rfl, fun hh => by rw [h39] at hh; cases hh⟩
def Tk.sh (o o' : Nat) (x : Tk) : Tk := ⟨x.k, x.t, x.a - o' + o, x.b - o' + o⟩
theorem bu_get {s : ByteArray} {i : Nat} (h : i < s.data.size) : s.data[i] = bu s i := by
 rw [bu, List.getD_eq_getElem?_getD, Array.getElem?_toList, Array.getElem?_eq_getElem h]
 rfl
theorem Alike.extract {u u' : ByteArray} {o o' n : Nat} (h : Alike u u' o o' n) (f d : Nat) : u.extract (o + f) (o + d) = u'.extract (o' + f) (o' + d) := by
 have h1 : u.data.size = o + n := h.su
 have h2 : u'.data.size = o' + n := h.su'
 apply ByteArray.ext
 rw [ByteArray.data_extract, ByteArray.data_extract]
 apply Array.ext
 ·rw [Array.size_extract, Array.size_extract, h1, h2]
  omega
 ·intro i a b
  rw [Array.size_extract, h1] at a
  rw [Array.size_extract, h2] at b
  rw [Array.getElem_extract, Array.getElem_extract, bu_get, bu_get, Nat.add_assoc, Nat.add_assoc]
  exact h.eq _
theorem Alike.one {u u' : ByteArray} {o o' n : Nat} (h : Alike u u' o o' n) (f : Nat) (l l' : List Tk) (ho : opens l.getLast? (o + f) = opens l'.getLast? (o' + f)) {y : Tk} (hy : oneN u' (o' + f) l' = .ok y) (hl : l.length ≠ 1000) :
 oneN u (o + f) l = .ok (y.sh o o') ∧ o' + f = y.a ∧ ∃ d, y.b = o' + d := by
 unfold oneN at hy ⊢
 rcases h.headN f _ _ ho with ⟨_, h2⟩ | ⟨K, j, j', h2, h3, h4⟩
 ·rw [h2] at hy; cases hy
 ·rw [h3] at hy
  rw [h2]
  dsimp only at hy ⊢
  rw [if_neg hl]
  split at hy
  ·cases hy
  ·rw [h.bn f]
   split at hy
   ·rename_i h39
    rw [if_pos h39]
    rcases h.quoN f (f + 1) [] with ⟨t, p, h5, h6⟩ | ⟨p, e, h5, h6⟩
    ·rw [← Nat.add_assoc] at h5 h6
     rw [h6] at hy
     rw [h5]
     injection hy with hy
     subst hy
     refine ⟨?_, rfl, p, rfl⟩
     simp only [Tk.sh, Nat.add_sub_cancel_left]
     rw [Nat.add_comm f o, Nat.add_comm p o]
    ·rw [← Nat.add_assoc] at h6
     rw [h6] at hy
     cases hy
   ·rename_i h39
    rw [if_neg h39]
    injection hy with hy
    subst hy
    obtain ⟨d, rfl, rfl⟩ := h4 (by simpa using h39)
    refine ⟨?_, rfl, d, rfl⟩
    simp only [Tk.sh, Nat.add_sub_cancel_left]
    rw [h.extract f d, Nat.add_comm f o, Nat.add_comm d o]
structure Ahead0 (s u : ByteArray) : Prop where
 lt : s.size < u.size
 eq : ∀ i, i < s.size → bu u i = bu s i
 blk : blankB (bn u s.size) = true
structure Ahead (s u : ByteArray) : Prop extends Ahead0 s u where
 line : betN u (lineN u s.size) = betN u s.size
theorem Ahead0.bn {s u : ByteArray} (h : Ahead0 s u) {i : Nat} (hi : i < s.size) : bn u i = bn s i := by rw [bn_bu, bn_bu, h.eq i hi]
theorem blank_cases {c : Int} (h : blankB c = true) : c = 32 ∨ c = 9 ∨ c = 10 ∨ c = 13 := by
 simp only [blankB, Bool.or_eq_true, beq_iff_eq] at h
 omega
theorem kind_blank {k c : Int} (h : blankB c = true) : kindB k c = false := by
 have hk : ∀ c : Int, (c = 32 ∨ c = 9 ∨ c = 10 ∨ c = 13) → namedB c = false ∧ digitB c = false ∧ signB c = false := by
  rintro c (rfl | rfl | rfl | rfl) <;> exact ⟨by decide, by decide, by decide⟩
 obtain ⟨h1, h2, h3⟩ := hk c (blank_cases h)
 simp [kindB, h1, h2, h3]
theorem Ahead0.two {s u : ByteArray} (h : Ahead0 s u) {i : Nat} (hi : i < s.size) {a b : Int} (hb : blankB b = false) : twoB u i a b = twoB s i a b := by
 have hlt := h.lt
 unfold twoB
 rw [h.bn hi]
 by_cases h1 : i + 1 < s.size
 ·rw [h.bn h1, decide_eq_true h1, decide_eq_true (by omega : i + 1 < u.size)]
 ·have h2 : i + 1 = s.size := by omega
  rw [decide_eq_false h1, h2]
  have h3 : (((Go.Proofs.YtlogcealmiokkaaGreatDoor.bn u s.size : Nat) : Int) == b) = false := by
   apply Bool.eq_false_iff.2
   intro h4
   have h5 : ((Go.Proofs.YtlogcealmiokkaaGreatDoor.bn u s.size : Nat) : Int) = b := by simpa using h4
   have := h.blk
   rw [h5, hb] at this
   cases this
  rw [h3]
  simp
theorem Ahead0.runN {s u : ByteArray} (h : Ahead0 s u) (k : Int) : ∀ (m j : Nat), s.size - j ≤ m → j ≤ s.size → runN k u j = Go.Proofs.YtlogcealmiokkaaGreatDoor.runN k s j
 | m, j, hm, hj => by
  have hlt := h.lt
  by_cases hjs : j < s.size
  ·cases hk : kindB k (Go.Proofs.YtlogcealmiokkaaGreatDoor.bn s j)
   ·rw [runN_stop hk, runN_stop (by rw [h.bn hjs]; exact hk)]
   ·rw [runN_step hjs hk, runN_step (by omega) (by rw [h.bn hjs]; exact hk)]
    match m, hm with
    | 0, hm => omega
    | m + 1, hm => exact h.runN k m (j + 1) (by omega) (by omega)
  ·have : j = s.size := by omega
   subst this
   rw [runN_end (Nat.le_refl _), runN_stop (kind_blank h.blk)]
theorem Ahead0.lineN {s u : ByteArray} (h : Ahead0 s u) : ∀ (m j : Nat), s.size - j ≤ m → j ≤ s.size → (lineN s j < s.size → lineN u j = Go.Proofs.YtlogcealmiokkaaGreatDoor.lineN s j) ∧ (Go.Proofs.YtlogcealmiokkaaGreatDoor.lineN s j = s.size → Go.Proofs.YtlogcealmiokkaaGreatDoor.lineN u j = Go.Proofs.YtlogcealmiokkaaGreatDoor.lineN u s.size)
 | m, j, hm, hj => by
  have hlt := h.lt
  by_cases hjs : j < s.size
  ·cases hk : ((Go.Proofs.YtlogcealmiokkaaGreatDoor.bn s j : Int) != 10)
   ·rw [lineN_stop hk, lineN_stop (by rw [h.bn hjs]; exact hk)]
    exact ⟨fun _ => rfl, fun hh => by omega⟩
   ·rw [lineN_step hjs hk, lineN_step (s := u) (j := j) (by omega) (by rw [h.bn hjs]; exact hk)]
    match m, hm with
    | 0, hm => omega
    | m + 1, hm => exact h.lineN m (j + 1) (by omega) (by omega)
  ·have : j = s.size := by omega
   subst this
   refine ⟨fun hh => ?_, fun _ => rfl⟩
   rw [lineN_end (Nat.le_refl _)] at hh
   omega
theorem Ahead0.endN {s u : ByteArray} (h : Ahead0 s u) : ∀ (m j : Nat), s.size - j ≤ m → endN s j < s.size → endN u j = Go.Proofs.YtlogcealmiokkaaGreatDoor.endN s j
 | m, j, hm, he => by
  have hlt := h.lt
  by_cases hjs : j < s.size
  ·cases hk : twoB s j 42 47
   ·rw [endN_step hjs hk] at he ⊢
    rw [endN_step (by omega) (by rw [h.two hjs (by decide)]; exact hk)]
    match m, hm with
    | 0, hm => omega
    | m + 1, hm => exact h.endN m (j + 1) (by omega) he
   ·rw [endN_stop hk, endN_stop (by rw [h.two hjs (by decide)]; exact hk)]
  ·rw [endN_end (by omega)] at he
   omega
theorem Ahead.betN {s u : ByteArray} (h : Ahead s u) : ∀ (m j f : Nat), s.size - j ≤ m → j ≤ s.size → betN s j = (f, true) → (f < s.size → betN u j = (f, true)) ∧ (f = s.size → Go.Proofs.YtlogcealmiokkaaGreatDoor.betN u j = Go.Proofs.YtlogcealmiokkaaGreatDoor.betN u s.size)
 | m, j, f, hm, hj, hb => by
  have hlt := h.lt
  by_cases hjs : j < s.size
  ·rw [betN_eq hjs] at hb
   rw [betN_eq (s := u) (j := j) (by omega), h.bn hjs, h.two hjs (by decide)]
   split at hb
   ·rename_i h1
    rw [if_pos h1]
    match m, hm with
    | 0, hm => omega
    | m + 1, hm => exact h.betN m (j + 1) f (by omega) (by omega) hb
   ·rename_i h1
    rw [if_neg h1]
    split at hb
    ·rename_i h2
     rw [if_pos h2]
     have hg := line_gt hjs h2
     have hle := lineN_le (s := s) (j := j) hj
     have hl := h.lineN _ j (Nat.le_refl _) hj
     by_cases hls : Go.Proofs.YtlogcealmiokkaaGreatDoor.lineN s j < s.size
     ·rw [hl.1 hls]
      match m, hm with
      | 0, hm => omega
      | m + 1, hm => exact h.betN m _ f (by omega) (by omega) hb
     ·have hls' : Go.Proofs.YtlogcealmiokkaaGreatDoor.lineN s j = s.size := by omega
      rw [hls', betN_end (Nat.le_refl _)] at hb
      injection hb with hb _
      rw [hl.2 hls']
      exact ⟨fun hh => by omega, fun _ => h.line⟩
    ·rename_i h2
     rw [if_neg h2]
     split at hb
     ·rename_i h3
      rw [if_pos h3]
      split at hb
      ·rename_i h4
       have h5 := h.endN _ (j + 2) (Nat.le_refl _) h4
       have h6 := endN_ge s (j + 2)
       have h7 := twoB_lt (endN_two h4)
       rw [h5, if_pos (by omega)]
       match m, hm with
       | 0, hm => omega
       | m + 1, hm => exact h.betN m _ f (by omega) (by omega) hb
      ·injection hb with _ hb; cases hb
     ·rename_i h3
      rw [if_neg h3]
      injection hb with hb _
      subst hb
      exact ⟨fun _ => rfl, fun hh => by omega⟩
  ·have hjj : j = s.size := by omega
   subst hjj
   rw [betN_end (Nat.le_refl _)] at hb
   injection hb with hb _
   exact ⟨fun hh => by omega, fun _ => rfl⟩
theorem Ahead0.quoN {s u : ByteArray} (h : Ahead0 s u) (i : Nat) (t : List UInt8) (p : Nat) : ∀ (m k : Nat) (b : List UInt8), s.size - k ≤ m → quoN s i k b = .ok t p → quoN u i k b = .ok t p
 | m, k, b, hm, hq => by
  have hlt := h.lt
  by_cases hks : k < s.size
  ·rw [quoN_eq hks] at hq
   rw [quoN_eq (s := u) (by omega), h.bn hks, h.two hks (by decide), h.eq k hks]
   split at hq
   ·rename_i h1
    rw [if_pos h1]
    match m, hm with
    | 0, hm => omega
    | m + 1, hm => exact h.quoN i t p m _ _ (by omega) hq
   ·rename_i h1
    rw [if_neg h1]
    split at hq
    ·rename_i h2
     rw [if_pos h2]
     exact hq
    ·rename_i h2
     rw [if_neg h2]
     split at hq
     ·rename_i h3
      rw [if_pos h3]
      split at hq
      ·cases hq
      ·rename_i h4
       have h5 : k + 1 < s.size := by omega
       rw [if_neg (by omega), h.bn h5, h.eq _ h5]
       split at hq
       ·rename_i h6
        rw [if_pos h6]
        match m, hm with
        | 0, hm => omega
        | m + 1, hm => exact h.quoN i t p m _ _ (by omega) hq
       ·rename_i h6
        rw [if_neg h6]
        split at hq
        ·rename_i h7
         rw [if_pos h7]
         match m, hm with
         | 0, hm => omega
         | m + 1, hm => exact h.quoN i t p m _ _ (by omega) hq
        ·rename_i h7
         rw [if_neg h7]
         split at hq
         ·rename_i h8
          rw [if_pos h8]
          match m, hm with
          | 0, hm => omega
          | m + 1, hm => exact h.quoN i t p m _ _ (by omega) hq
         ·cases hq
     ·rename_i h3
      rw [if_neg h3]
      split at hq
      ·cases hq
      ·rename_i h4
       rw [if_neg h4]
       match m, hm with
       | 0, hm => omega
       | m + 1, hm => exact h.quoN i t p m _ _ (by omega) hq
  ·rw [quoN_end (by omega)] at hq
   cases hq
theorem Ahead0.headN {s u : ByteArray} (h : Ahead0 s u) {f : Nat} (hf : f < s.size) (q : Option Tk) : headN u f q = Go.Proofs.YtlogcealmiokkaaGreatDoor.headN s f q := by
 have hlt := h.lt
 have e : (decide (f + 1 = u.size) || blankB (Go.Proofs.YtlogcealmiokkaaGreatDoor.bn u (f + 1)) || (Go.Proofs.YtlogcealmiokkaaGreatDoor.bn u (f + 1) : Int) == 37) = (decide (f + 1 = s.size) || blankB (Go.Proofs.YtlogcealmiokkaaGreatDoor.bn s (f + 1)) || (Go.Proofs.YtlogcealmiokkaaGreatDoor.bn s (f + 1) : Int) == 37) := by
  by_cases h1 : f + 1 = s.size
  ·rw [decide_eq_true h1, h1, h.blk]
   simp
  ·rw [h.bn (by omega : f + 1 < s.size), decide_eq_false h1, decide_eq_false (by omega : ¬ f + 1 = u.size)]
 unfold Go.Proofs.YtlogcealmiokkaaGreatDoor.headN
 rw [e, h.bn hf, h.runN 1 _ f (Nat.le_refl _) (by omega), h.runN 2 _ f (Nat.le_refl _) (by omega), h.runN 3 _ f (Nat.le_refl _) (by omega)]
theorem Ahead0.extract {s u : ByteArray} (h : Ahead0 s u) (f d : Nat) (hd : d ≤ s.size) : u.extract f d = s.extract f d := by
 have h1 : s.data.size < u.data.size := h.lt
 have hd' : d ≤ s.data.size := hd
 apply ByteArray.ext
 rw [ByteArray.data_extract, ByteArray.data_extract]
 apply Array.ext
 ·rw [Array.size_extract, Array.size_extract]
  omega
 ·intro i a b
  rw [Array.size_extract] at a b
  rw [Array.getElem_extract, Array.getElem_extract, bu_get, bu_get]
  exact h.eq _ (by show f + i < s.data.size; omega)
theorem Ahead0.one {s u : ByteArray} (h : Ahead0 s u) {f : Nat} (hf : f < s.size) {l : List Tk} {x : Tk} (hx : oneN s f l = .ok x) : oneN u f l = .ok x := by
 unfold oneN at hx ⊢
 rw [h.headN hf]
 cases hh : Go.Proofs.YtlogcealmiokkaaGreatDoor.headN s f l.getLast? with
 | none => rw [hh] at hx; cases hx
 | some q =>
  obtain ⟨K, j⟩ := q
  rw [hh] at hx
  dsimp only at hx ⊢
  split at hx
  ·cases hx
  ·rename_i hl
   rw [if_neg hl, h.bn hf]
   split at hx
   ·rename_i h39
    rw [if_pos h39]
    cases hq : Go.Proofs.YtlogcealmiokkaaGreatDoor.quoN s f (f + 1) [] with
    | ok t p =>
     rw [hq] at hx
     rw [h.quoN f t p _ _ _ (Nat.le_refl _) hq]
     exact hx
    | bad p e => rw [hq] at hx; cases hx
   ·rename_i h39
    rw [if_neg h39]
    have := headN_ok hh hf (by simpa using h39)
    rw [h.extract f j this.2.2.2]
    exact hx
end Go.Proofs.YtlogcealmiokkaaGreatDoor
namespace Go.Proofs.YtlogcealmiokkaaGreatDoor
def esc1 (c : UInt8) : Option (List UInt8) :=
 if c = 10 then some [92, 110] else if c = 9 then some [92, 116] else if c = 92 ∨ c = 39 then some [92, c]
 else if c.toNat < 32 ∨ 126 < c.toNat then none else some [c]
def escN : List UInt8 → Option (List UInt8)
 | [] => some []
 | c :: l => match esc1 c, escN l with
  | some x, some y => some (x ++ y)
  | _, _ => none
def plainN (s : ByteArray) : Bool := decide (0 < s.size) &&
 (if smallB (bn s 0) then decide (runN 1 s 0 = s.size)
  else if signB (bn s 0) then !(decide (s.size = 1) && (bn s 0 : Int) == 46) && !(twoB s 0 47 42) && decide (runN 3 s 0 = s.size)
  else ((bn s 0 : Int) == 33 || (bn s 0 : Int) == 59) && decide (s.size = 1))
def quotedN (l : List UInt8) : ByteArray := ⟨(39 :: (l ++ [39])).toArray⟩
def quoteN (s : ByteArray) : ByteArray := if plainN s then s else match escN s.data.toList with
 | some l => quotedN l
 | none => ⟨#[]⟩
theorem byte_eq (c d : UInt8) : (((c.toNat : Nat) : Int) == ((d.toNat : Nat) : Int)) = decide (c = d) := by
 rw [Bool.eq_iff_iff, beq_iff_eq, decide_eq_true_eq]
 exact ⟨fun h => UInt8.toNat_inj.1 (by omega), fun h => by rw [h]⟩
theorem headN_quote {s : ByteArray} {f : Nat} {o : Option Tk} (h : (bn s f : Int) = 39) : headN s f o = some (1, 0) := by
 unfold headN
 rw [h]
 have e1 : smallB 39 = false := by decide
 have e2 : greatB 39 = false := by decide
 have e3 : digitB 39 = false := by decide
 have e4 : signB 39 = false := by decide
 rw [e1, e2, e3, e4]
 simp
theorem bet_none {s : ByteArray} {j : Nat} (h : j < s.size) (h1 : blankB (bn s j) = false) (h2 : ((bn s j : Int) == 37) = false) (h3 : twoB s j 47 42 = false) : betN s j = (j, true) := by
 rw [betN_eq h, h1, h2, h3]
 simp
theorem bytes_same {a b : ByteArray} (h : a.data.toList = b.data.toList) : a = b := by
 apply ByteArray.ext
 exact Array.toList_inj.1 h
theorem sign_facts {c : Int} (h : signB c = true) : smallB c = false ∧ greatB c = false ∧ digitB c = false ∧ blankB c = false ∧ (c == 37) = false ∧ (c == 39) = false := by
 have := signB_iff.1 h
 simp only [List.mem_cons, List.not_mem_nil, or_false] at this
 rcases this with rfl | rfl | rfl | rfl | rfl | rfl | rfl | rfl | rfl | rfl | rfl | rfl | rfl | rfl | rfl | rfl | rfl <;> exact ⟨by decide, by decide, by decide, by decide, by decide, by decide⟩
theorem small_facts {c : Int} (h : smallB c = true) : blankB c = false ∧ (c == 37) = false ∧ (c == 39) = false ∧ (c == 46) = false ∧ (c == 47) = false := by
 simp only [smallB, Bool.and_eq_true, decide_eq_true_eq] at h
 refine ⟨?_, ?_, ?_, ?_, ?_⟩
 ·simp only [blankB, Bool.or_eq_false_iff, beq_eq_false_iff_ne]; omega
 all_goals rw [beq_eq_false_iff_ne]; omega
theorem run_all {k : Int} {s : ByteArray} (h : runN k s 0 = s.size) {i : Nat} (hi : i < s.size) : kindB k (bn s i) = true := by
 have key : ∀ (n j : Nat), s.size - j ≤ n → runN k s j = s.size → ∀ i, j ≤ i → i < s.size → kindB k (bn s i) = true := by
  intro n
  induction n with
  | zero => intro j hn _ i h1 h2; omega
  | succ n ih =>
   intro j hn hr i h1 h2
   cases hk : kindB k (bn s j) with
   | false => rw [runN_stop hk] at hr; omega
   | true =>
    rw [runN_step (by omega) hk] at hr
    rcases Nat.eq_or_lt_of_le h1 with rfl | h3
    ·exact hk
    ·exact ih (j + 1) (by omega) hr i (by omega) h2
 exact key s.size 0 (by omega) h i (Nat.zero_le _) hi
end Go.Proofs.YtlogcealmiokkaaGreatDoor
namespace Go.Proofs.YtlogcealmiokkaaGreatDoor
open Go.RowKit
end Go.Proofs.YtlogcealmiokkaaGreatDoor
namespace Go.Proofs.YtlogcealmiokkaaGreatDoor
open Go.RowKit
def restB (f : Nat → List UInt8) : Nat → Nat → List UInt8
 | _, 0 => []
 | j, r + 1 => 44 :: (f j ++ restB f (j + 1) r)
def txB (V : Int → List UInt8) : T → List UInt8 × List UInt8
 | .nil => ([], [])
 | .mk k n s m a =>
  let t := if k = 1 then V n else if k = 2 then Lib.itoa n
   else if k = 3 then (if s = nilS ∨ s = curS then s.data.toList else (quoteN s).data.toList)
   else if s = dotS ∧ m = 2 then 91 :: ((txB V (a 0)).1 ++ ((txB V (a 1)).2 ++ [93]))
   else (quoteN s).data.toList ++ 40 :: ((txB V (a 0)).1 ++ (restB (fun i => (txB V (a i)).1) 1 (m - 1) ++ [41]))
  (t, if k = 4 ∧ s = dotS ∧ m = 2 then 44 :: ((txB V (a 0)).1 ++ (txB V (a 1)).2) else if k = 3 ∧ s = nilS then [] else 124 :: t)
def T.wr : T → Prop
 | .nil => False
 | .mk k n s m a => (k = 1 ∧ 0 ≤ n) ∨ (k = 2 ∧ -9223372036854775808 ≤ n ∧ n ≤ 9223372036854775807) ∨ (k = 3 ∧ (quoteN s).size ≠ 0) ∨ (k = 4 ∧ (quoteN s).size ≠ 0 ∧ 0 < m ∧ ∀ i, i < m → (a i).wr)
section
variable (V : Int → List UInt8)
theorem tx_int (n : Int) (s : ByteArray) (m : Nat) (a : Nat → T) : txB V (.mk 2 n s m a) = (Lib.itoa n, 124 :: Lib.itoa n) := by
 rw [txB]; simp
theorem tx_nil (n : Int) (m : Nat) (a : Nat → T) : txB V (.mk 3 n nilS m a) = ([91, 93], []) := by
 rw [txB]; simp [nilS]
theorem tx_cur (n : Int) (m : Nat) (a : Nat → T) : txB V (.mk 3 n curS m a) = ([123, 125], [124, 123, 125]) := by
 rw [txB]
 simp only [show ¬ ((3 : Int) = 1) by decide, show ¬ ((3 : Int) = 2) by decide, if_false, if_true, or_true, show ¬ ((3 : Int) = 4 ∧ curS = dotS ∧ m = 2) by intro h; exact absurd h.1 (by decide)]
 rfl
theorem tx_atom {s : ByteArray} (h1 : s ≠ nilS) (h2 : s ≠ curS) (n : Int) (m : Nat) (a : Nat → T) : txB V (.mk 3 n s m a) = ((quoteN s).data.toList, 124 :: (quoteN s).data.toList) := by
 rw [txB]; simp [h1, h2]
end
def Mk (x : Tk) (c : UInt8) : Prop := x.k = 5 ∧ x.t = ba [c]
def restTk (f : Nat → List Tk → Prop) : Nat → Nat → List Tk → Prop
 | _, 0, l => l = []
 | j, r + 1, l => ∃ c l0 l1, l = c :: (l0 ++ l1) ∧ Mk c 44 ∧ f j l0 ∧ restTk f (j + 1) r l1
def tkB (V : Int → List UInt8) : T → (List Tk → Prop) × (List Tk → Prop)
 | .nil => (fun _ => False, fun _ => False)
 | .mk k n s m a =>
  let h : List Tk → Prop :=
   if k = 1 then fun l => ∃ x, l = [x] ∧ x.k = 2 ∧ x.t = ba (V n)
   else if k = 2 then (if n < 0 then fun l => ∃ x y, l = [x, y] ∧ x.k = 1 ∧ x.t = ba [45] ∧ y.k = 3 ∧ y.t = ba (Lib.decDigits n.natAbs) ∧ y.a = x.b else fun l => ∃ x, l = [x] ∧ x.k = 3 ∧ x.t = ba (Lib.itoa n))
   else if k = 3 then (if s = nilS then fun l => ∃ x y, l = [x, y] ∧ Mk x 91 ∧ Mk y 93 else if s = curS then fun l => ∃ x y, l = [x, y] ∧ Mk x 123 ∧ Mk y 125 else fun l => ∃ x, l = [x] ∧ x.k = 1 ∧ x.t = s)
   else if s = dotS ∧ m = 2 then fun l => ∃ x y l0 l1, l = x :: (l0 ++ (l1 ++ [y])) ∧ Mk x 91 ∧ Mk y 93 ∧ (tkB V (a 0)).1 l0 ∧ (tkB V (a 1)).2 l1
   else fun l => ∃ x y z l0 l1, l = x :: y :: (l0 ++ (l1 ++ [z])) ∧ x.k = 1 ∧ x.t = s ∧ y.k = 4 ∧ Mk z 41 ∧ (tkB V (a 0)).1 l0 ∧ restTk (fun i => (tkB V (a i)).1) 1 (m - 1) l1
  (h, if k = 4 ∧ s = dotS ∧ m = 2 then fun l => ∃ c l0 l1, l = c :: (l0 ++ l1) ∧ Mk c 44 ∧ (tkB V (a 0)).1 l0 ∧ (tkB V (a 1)).2 l1
    else if k = 3 ∧ s = nilS then fun l => l = [] else fun l => ∃ c l0, l = c :: l0 ∧ Mk c 124 ∧ h l0)
section
variable (V : Int → List UInt8)
theorem tk_var (n : Int) (s : ByteArray) (m : Nat) (a : Nat → T) (l : List Tk) : (tkB V (.mk 1 n s m a)).1 l = ∃ x, l = [x] ∧ x.k = 2 ∧ x.t = ba (V n) := by
 rw [tkB]; simp
theorem tk_neg {n : Int} (h : n < 0) (s : ByteArray) (m : Nat) (a : Nat → T) (l : List Tk) : (tkB V (.mk 2 n s m a)).1 l = ∃ x y, l = [x, y] ∧ x.k = 1 ∧ x.t = ba [45] ∧ y.k = 3 ∧ y.t = ba (Lib.decDigits n.natAbs) ∧ y.a = x.b := by
 rw [tkB]; simp [h]
theorem tk_pos {n : Int} (h : ¬ n < 0) (s : ByteArray) (m : Nat) (a : Nat → T) (l : List Tk) : (tkB V (.mk 2 n s m a)).1 l = ∃ x, l = [x] ∧ x.k = 3 ∧ x.t = ba (Lib.itoa n) := by
 rw [tkB]; simp [h]
theorem tk_nil (n : Int) (m : Nat) (a : Nat → T) (l : List Tk) : (tkB V (.mk 3 n nilS m a)).1 l = ∃ x y, l = [x, y] ∧ Mk x 91 ∧ Mk y 93 := by
 rw [tkB]; simp
theorem tk_cur (n : Int) (m : Nat) (a : Nat → T) (l : List Tk) : (tkB V (.mk 3 n curS m a)).1 l = ∃ x y, l = [x, y] ∧ Mk x 123 ∧ Mk y 125 := by
 rw [tkB]; simp [show ¬ (curS = nilS) by decide]
theorem tk_atom {s : ByteArray} (h1 : s ≠ nilS) (h2 : s ≠ curS) (n : Int) (m : Nat) (a : Nat → T) (l : List Tk) : (tkB V (.mk 3 n s m a)).1 l = ∃ x, l = [x] ∧ x.k = 1 ∧ x.t = s := by
 rw [tkB]; simp [h1, h2]
theorem tk_pair (n : Int) (a : Nat → T) (l : List Tk) : (tkB V (.mk 4 n dotS 2 a)).1 l = ∃ x y l0 l1, l = x :: (l0 ++ (l1 ++ [y])) ∧ Mk x 91 ∧ Mk y 93 ∧ (tkB V (a 0)).1 l0 ∧ (tkB V (a 1)).2 l1 := by
 rw [tkB]; simp
theorem tk_cmp {s : ByteArray} {m : Nat} (h : ¬ (s = dotS ∧ m = 2)) (n : Int) (a : Nat → T) (l : List Tk) : (tkB V (.mk 4 n s m a)).1 l = ∃ x y z l0 l1, l = x :: y :: (l0 ++ (l1 ++ [z])) ∧ x.k = 1 ∧ x.t = s ∧ y.k = 4 ∧ Mk z 41 ∧ (tkB V (a 0)).1 l0 ∧ restTk (fun i => (tkB V (a i)).1) 1 (m - 1) l1 := by
 rw [tkB]
 simp only [show ¬ ((4 : Int) = 1) by decide, show ¬ ((4 : Int) = 2) by decide, show ¬ ((4 : Int) = 3) by decide, if_false, if_neg h]
theorem tl_pair (n : Int) (a : Nat → T) (l : List Tk) : (tkB V (.mk 4 n dotS 2 a)).2 l = ∃ c l0 l1, l = c :: (l0 ++ l1) ∧ Mk c 44 ∧ (tkB V (a 0)).1 l0 ∧ (tkB V (a 1)).2 l1 := by
 rw [tkB]; simp
theorem tl_nil (n : Int) (m : Nat) (a : Nat → T) (l : List Tk) : (tkB V (.mk 3 n nilS m a)).2 l = (l = []) := by
 rw [tkB]; simp
theorem tl_else {k : Int} {s : ByteArray} {m : Nat} (h1 : ¬ (k = 4 ∧ s = dotS ∧ m = 2)) (h2 : ¬ (k = 3 ∧ s = nilS)) (n : Int) (a : Nat → T) (l : List Tk) : (tkB V (.mk k n s m a)).2 l = ∃ c l0, l = c :: l0 ∧ Mk c 124 ∧ (tkB V (.mk k n s m a)).1 l0 := by
 rw [tkB]
 simp only [if_neg h1, if_neg h2]
end
end Go.Proofs.YtlogcealmiokkaaGreatDoor
namespace Go.Proofs.YtlogcealmiokkaaGreatDoor
open Go.RowKit
def rnRow (f : Nat → List ByteArray → T × List ByteArray) : Nat → Nat → List ByteArray → List T × List ByteArray
 | _, 0, ns => ([], ns)
 | j, r + 1, ns => ((f j ns).1 :: (rnRow f (j + 1) r (f j ns).2).1, (rnRow f (j + 1) r (f j ns).2).2)
def rnT (V : Int → List UInt8) : T → List ByteArray → T × List ByteArray
 | .nil, ns => (.nil, ns)
 | .mk k n s m a, ns =>
  if k = 1 then (vrT (varN (ba (V n)) ns).1, (varN (ba (V n)) ns).2)
  else if k = 2 then (inT n, ns)
  else if k = 3 then (atT s, ns)
  else if s = dotS ∧ m = 2 then (twoT dotS (rnT V (a 0) ns).1 (rnT V (a 1) (rnT V (a 0) ns).2).1, (rnT V (a 1) (rnT V (a 0) ns).2).2)
  else (cmpT s ((rnT V (a 0) ns).1 :: (rnRow (fun i => rnT V (a i)) 1 (m - 1) (rnT V (a 0) ns).2).1), (rnRow (fun i => rnT V (a i)) 1 (m - 1) (rnT V (a 0) ns).2).2)
section
variable (V : Int → List UInt8)
theorem rn_var (n : Int) (s : ByteArray) (m : Nat) (a : Nat → T) (ns : List ByteArray) : rnT V (.mk 1 n s m a) ns = (vrT (varN (ba (V n)) ns).1, (varN (ba (V n)) ns).2) := by rw [rnT, if_pos rfl]
theorem rn_int (n : Int) (s : ByteArray) (m : Nat) (a : Nat → T) (ns : List ByteArray) : rnT V (.mk 2 n s m a) ns = (inT n, ns) := by rw [rnT, if_neg (by decide), if_pos rfl]
theorem rn_atom (n : Int) (s : ByteArray) (m : Nat) (a : Nat → T) (ns : List ByteArray) : rnT V (.mk 3 n s m a) ns = (atT s, ns) := by rw [rnT, if_neg (by decide), if_neg (by decide), if_pos rfl]
theorem rn_pair (n : Int) (a : Nat → T) (ns : List ByteArray) : rnT V (.mk 4 n dotS 2 a) ns = (twoT dotS (rnT V (a 0) ns).1 (rnT V (a 1) (rnT V (a 0) ns).2).1, (rnT V (a 1) (rnT V (a 0) ns).2).2) := by
 rw [rnT, if_neg (by decide), if_neg (by decide), if_neg (by decide), if_pos ⟨rfl, rfl⟩]
theorem rn_cmp {s : ByteArray} {m : Nat} (h : ¬ (s = dotS ∧ m = 2)) (n : Int) (a : Nat → T) (ns : List ByteArray) : rnT V (.mk 4 n s m a) ns = (cmpT s ((rnT V (a 0) ns).1 :: (rnRow (fun i => rnT V (a i)) 1 (m - 1) (rnT V (a 0) ns).2).1), (rnRow (fun i => rnT V (a i)) 1 (m - 1) (rnT V (a 0) ns).2).2) := by
 rw [rnT, if_neg (by decide), if_neg (by decide), if_neg (by decide), if_neg h]
end
def supTo : Nat → (Nat → Nat) → Nat
 | 0, _ => 0
 | n + 1, f => max (supTo n f) (f n)
theorem sup_ge {f : Nat → Nat} : ∀ {m i : Nat}, i < m → f i ≤ supTo m f
 | m + 1, i, h => by
  simp only [supTo]
  rcases Nat.lt_or_ge i m with h1 | h1
  ·have := sup_ge (f := f) h1; omega
  ·obtain rfl : i = m := by omega
   omega
def lvB : T → Nat × Nat
 | .nil => (1, 1)
 | .mk k _ s m a =>
  let t := if k = 4 then (if s = dotS ∧ m = 2 then 1 + max (lvB (a 0)).1 (lvB (a 1)).2 else 1 + supTo m fun i => (lvB (a i)).1) else 1
  (t, if k = 4 ∧ s = dotS ∧ m = 2 then max (lvB (a 0)).1 (lvB (a 1)).2 else if k = 3 ∧ s = nilS then 0 else t)
theorem lv_pos (t : T) : 1 ≤ (lvB t).1 := by
 cases t with
 | nil => simp [lvB]
 | mk k n s m a =>
  rw [lvB]
  dsimp only
  split
  ·split <;> omega
  ·omega
theorem lv_pair (n : Int) (a : Nat → T) : lvB (.mk 4 n dotS 2 a) = (1 + max (lvB (a 0)).1 (lvB (a 1)).2, max (lvB (a 0)).1 (lvB (a 1)).2) := by
 rw [lvB]; simp
theorem lv_cmp {s : ByteArray} {m : Nat} (h : ¬ (s = dotS ∧ m = 2)) (n : Int) (a : Nat → T) : (lvB (.mk 4 n s m a)).1 = 1 + supTo m fun i => (lvB (a i)).1 := by
 rw [lvB]; simp only [if_pos, if_neg h]
theorem lv_else {k : Int} {s : ByteArray} {m : Nat} (h1 : ¬ (k = 4 ∧ s = dotS ∧ m = 2)) (h2 : ¬ (k = 3 ∧ s = nilS)) (n : Int) (a : Nat → T) : (lvB (.mk k n s m a)).2 = (lvB (.mk k n s m a)).1 := by
 rw [lvB]
 simp only [if_neg h1, if_neg h2]
def Ok52 {α : Type} (c : Prop) (r : PR α) (x : α × Nat × List ByteArray) : Prop := r = .ok x ∨ (¬ c ∧ ∃ p, r = .error (p, 52))
theorem Ok52.weak {α : Type} {c c' : Prop} {r : PR α} {x : α × Nat × List ByteArray} (h : Ok52 c r x) (hc : c' → c) : Ok52 c' r x := h.imp id fun h => ⟨fun h' => h.1 (hc h'), h.2⟩
theorem Ok52.bind {c : Prop} {α β : Type} {r : PR α} {a : α} {j : Nat} {ns : List ByteArray} {f : α → Nat → List ByteArray → PR β} {y : β × Nat × List ByteArray} (h : Ok52 c r (a, j, ns)) (h2 : Ok52 c (f a j ns) y) : Ok52 c (r.andThen f) y := by
 rcases h with rfl | ⟨hc, p, rfl⟩
 ·exact h2
 ·exact .inr ⟨hc, p, rfl⟩
section
variable {tk : List Tk} {sz : Nat}
theorem nx_at {i : Nat} {x : Tk} {r : List Tk} (h : tk.drop i = x :: r) : nxT tk sz i = x := by
 have hi : i < tk.length := by
  rcases Nat.lt_or_ge i tk.length with h1 | h1
  ·exact h1
  ·rw [List.drop_eq_nil_of_le h1] at h; cases h
 unfold nxT
 rw [dif_pos hi]
 rw [List.drop_eq_getElem_cons hi] at h
 injection h
theorem nx_none {i : Nat} (h : tk.drop i = []) : (nxT tk sz i).k = 0 := by
 have hi : ¬ i < tk.length := by
  intro hi
  rw [List.drop_eq_getElem_cons hi] at h
  cases h
 unfold nxT
 rw [dif_neg hi]
theorem drop_app {i : Nat} {a b : List Tk} (h : tk.drop i = a ++ b) : tk.drop (i + a.length) = b := by rw [← List.drop_drop, h, List.drop_left]
theorem drop_one {i : Nat} {x : Tk} {b : List Tk} (h : tk.drop i = x :: b) : tk.drop (i + 1) = b := drop_app (a := [x]) h
theorem tk_pos' {i : Nat} {x : Tk} {b : List Tk} (h : tk.drop i = x :: b) : 0 < tk.length := by
 cases tk with
 | nil => simp at h
 | cons => simp
theorem ba_toList (l : List UInt8) : (ba l).toList = l := by rw [ByteArray.toList_eq]; simp [ba]
theorem isM_mk {i : Nat} {x : Tk} {r : List Tk} {c : UInt8} (h : tk.drop i = x :: r) (hx : Mk x c) (d : UInt8) : isM tk sz i ⟨#[d]⟩ = (c == d) := by
 unfold isM
 rw [nx_at h, hx.1, hx.2, ba_toList, show (⟨#[d]⟩ : ByteArray).toList = [d] from by rw [ByteArray.toList_eq]]
 simp
theorem isM_other {i : Nat} {x : Tk} {r : List Tk} (h : tk.drop i = x :: r) (hx : x.k ≠ 5) (m : ByteArray) : isM tk sz i m = false := by
 unfold isM
 rw [nx_at h, beq_eq_false_iff_ne.2 hx]
 rfl
theorem isM_none {i : Nat} (h : tk.drop i = []) (m : ByteArray) : isM tk sz i m = false := by
 unfold isM
 rw [nx_none h]
 rfl
def closeT (most : Int) (rest : List Tk) : Prop := rest = [] ∨ ∃ z r, rest = z :: r ∧ (z.k = 6 ∨ Mk z 41 ∨ Mk z 93 ∨ Mk z 125 ∨ Mk z 124 ∨ (Mk z 44 ∧ most < 1000))
theorem closeT.of {most : Int} {z : Tk} (r : List Tk) (h : z.k = 6 ∨ Mk z 41 ∨ Mk z 93 ∨ Mk z 125 ∨ Mk z 124 ∨ (Mk z 44 ∧ most < 1000)) : closeT most (z :: r) := .inr ⟨z, r, rfl, h⟩
theorem inf_stop {tm : Int → Nat → List ByteArray → PR T} {most : Int} {rest : List Tk} {j : Nat} (hc : closeT most rest) (h : tk.drop j = rest) {f : Nat} (hf : 0 < f) (t : T) (pr : Int) (ns : List ByteArray) :
 infixC tk sz tm most f t pr j ns = .ok (t, j, ns) := by
 obtain ⟨f, rfl⟩ : ∃ g, f = g + 1 := ⟨f - 1, by omega⟩
 have no : (nxT tk sz j).k ≠ 1 → isM tk sz j ⟨#[44]⟩ = false → infixC tk sz tm most (f + 1) t pr j ns = .ok (t, j, ns) := fun h1 h2 => by
  unfold infixC
  dsimp only
  rw [if_pos ⟨h1, h2⟩]
 rcases hc with rfl | ⟨z, r, rfl, hz⟩
 ·exact no (by rw [nx_none h]; decide) (isM_none h _)
 ·rcases hz with hz | hz | hz | hz | hz | ⟨hz, hm⟩
  ·exact no (by rw [nx_at h, hz]; decide) (isM_other h (by rw [hz]; decide) _)
  ·exact no (by rw [nx_at h, hz.1]; decide) (isM_mk h hz _)
  ·exact no (by rw [nx_at h, hz.1]; decide) (isM_mk h hz _)
  ·exact no (by rw [nx_at h, hz.1]; decide) (isM_mk h hz _)
  ·exact no (by rw [nx_at h, hz.1]; decide) (isM_mk h hz _)
  ·unfold infixC
   dsimp only
   rw [if_neg (by rw [isM_mk h hz]; simp), nx_at h, hz.2, show opIn (ba [44]) = some (1000, 999, 1000) from by decide +kernel]
   dsimp only
   rw [if_pos (.inl hm)]
theorem ends_stop {most : Int} {rest : List Tk} {j : Nat} (hc : closeT most rest) (h : tk.drop j = rest) : endsP tk sz j = true := by
 unfold endsP
 rcases hc with rfl | ⟨z, r, rfl, hz⟩
 ·dsimp only
  rw [if_pos (.inl (nx_none h))]
 ·rw [nx_at h]
  dsimp only
  rcases hz with hz | hz | hz | hz | hz | ⟨hz, _⟩
  ·rw [if_pos (.inr hz)]
  all_goals
   rw [if_neg (by rw [hz.1]; decide), if_pos hz.1, hz.2, ba_toList]
   decide
theorem close_k {most : Int} {rest : List Tk} {j : Nat} (hc : closeT most rest) (h : tk.drop j = rest) : (nxT tk sz j).k ≠ 4 ∧ (nxT tk sz j).k ≠ 3 := by
 rcases hc with rfl | ⟨z, r, rfl, hz⟩
 ·rw [nx_none h]; decide
 ·rw [nx_at h]
  rcases hz with hz | hz | hz | hz | hz | ⟨hz, _⟩
  ·rw [hz]; decide
  all_goals rw [hz.1]; decide
theorem must_mk {α : Type} {i : Nat} {x : Tk} {r : List Tk} {c : UInt8} (h : tk.drop i = x :: r) (hx : Mk x c) (a : α) (ns : List ByteArray) : mustN tk sz ⟨#[c]⟩ a i ns = .ok (a, i + 1, ns) := by
 unfold mustN
 rw [isM_mk h hx, if_pos (by simp)]
theorem zeros_same {c : UInt8} {l : List UInt8} (h : c.toNat ≠ 48) : zerosL (c :: l) = c :: l := by
 cases l with
 | nil => rfl
 | cons d l =>
  rw [zerosL, if_neg (fun e => h (by rw [e]; rfl))]
theorem zeros_dec (u : Nat) : zerosL (Lib.decDigits u) = Lib.decDigits u := by
 by_cases h : u < 10
 ·rw [dec_small h]; rfl
 ·obtain ⟨c, l, e, h1, _⟩ := dec_head u (by omega)
  rw [e]
  exact zeros_same (by omega)
theorem int_pos {n : Int} (h0 : 0 ≤ n) (h1 : n ≤ 9223372036854775807) : intN (ba (Lib.itoa n)) false = some n := by
 have e : Lib.itoa n = Lib.decDigits n.toNat := by rw [Lib.itoa, if_neg (by omega)]
 unfold intN
 rw [show (ba (Lib.itoa n)).data.toList = Lib.itoa n from by simp [ba], e, zeros_dec, if_neg (by simp), ← e]
 exact parse_itoa (by simp [ba]) (by omega) h1
theorem int_neg {n : Int} (h0 : n < 0) (h1 : -9223372036854775808 ≤ n) : intN (ba (Lib.decDigits n.natAbs)) true = some n := by
 have e : Lib.itoa n = 45 :: Lib.decDigits n.natAbs := by rw [Lib.itoa, if_pos h0]
 have hne : Lib.decDigits n.natAbs ≠ [48] := fun h => by
  obtain ⟨c, l, e2, h2, _⟩ := dec_head n.natAbs (by omega)
  rw [e2] at h
  injection h with h
  rw [h] at h2
  exact absurd h2 (by decide)
 unfold intN
 rw [show (ba (Lib.decDigits n.natAbs)).data.toList = Lib.decDigits n.natAbs from by simp [ba], zeros_dec, if_pos ⟨rfl, hne⟩, ← e]
 exact parse_itoa (by simp [ba]) h1 (by omega)
theorem first_ok {V : Int → List UInt8} {t : T} (hw : t.wr) {tks rest : List Tk} (ht : (tkB V t).1 tks) {i : Nat} (h : tk.drop i = tks ++ rest) : isM tk sz i ⟨#[93]⟩ = false := by
 cases t with
 | nil => exact hw.elim
 | mk k n s m a =>
  rcases hw with ⟨rfl, _⟩ | ⟨rfl, _⟩ | ⟨rfl, _⟩ | ⟨rfl, _⟩
  ·rw [tk_var] at ht
   obtain ⟨x, rfl, hk, _⟩ := ht
   exact isM_other h (by rw [hk]; decide) _
  ·by_cases h0 : n < 0
   ·rw [tk_neg V h0] at ht
    obtain ⟨x, y, rfl, hk, _⟩ := ht
    exact isM_other h (by rw [hk]; decide) _
   ·rw [tk_pos V h0] at ht
    obtain ⟨x, rfl, hk, _⟩ := ht
    exact isM_other h (by rw [hk]; decide) _
  ·by_cases h1 : s = nilS
   ·subst h1
    rw [tk_nil] at ht
    obtain ⟨x, y, rfl, hx, _⟩ := ht
    exact isM_mk h hx 93
   ·by_cases h2 : s = curS
    ·subst h2
     rw [tk_cur] at ht
     obtain ⟨x, y, rfl, hx, _⟩ := ht
     exact isM_mk h hx 93
    ·rw [tk_atom V h1 h2] at ht
     obtain ⟨x, rfl, hk, _⟩ := ht
     exact isM_other h (by rw [hk]; decide) _
  ·by_cases hp : s = dotS ∧ m = 2
   ·obtain ⟨rfl, rfl⟩ := hp
    rw [tk_pair] at ht
    obtain ⟨x, y, l0, l1, rfl, hx, _⟩ := ht
    exact isM_mk h hx 93
   ·rw [tk_cmp V hp] at ht
    obtain ⟨x, y, z, l0, l1, rfl, hk, _⟩ := ht
    exact isM_other h (by rw [hk]; decide) _
theorem list_snoc (acc : List T) (x r : T) : listT (acc ++ [x]) r = listT acc (twoT dotS x r) := by simp [listT]
def TermOk (tk : List Tk) (sz : Nat) (V : Int → List UInt8) (t : T) : Prop := ∀ (tks : List Tk), (tkB V t).1 tks → ∀ (d : Nat) (i : Nat) (ns : List ByteArray) (most : Int) (rest : List Tk), tk.drop i = tks ++ rest → 999 ≤ most → closeT most rest →
 Ok52 ((lvB t).1 ≤ d) (termP tk sz d most i ns) ((rnT V t ns).1, i + tks.length, (rnT V t ns).2)
def listK (tk : List Tk) (sz : Nat) (d : Nat) (l : List T) (j : Nat) (ns1 : List ByteArray) : PR T :=
 if isM tk sz j ⟨#[124]⟩ then (termP tk sz d 999 (j + 1) ns1).andThen fun r j2 ns2 => mustN tk sz ⟨#[93]⟩ (listT l r) j2 ns2 else mustN tk sz ⟨#[93]⟩ (listT l (atT nilS)) j ns1
def TailOk (tk : List Tk) (sz : Nat) (V : Int → List UInt8) (t : T) : Prop := ∀ (tks : List Tk), (tkB V t).2 tks → ∀ (d : Nat) (i : Nat) (ns : List ByteArray) (acc : List T) (f : Nat) (z : Tk) (rest : List Tk), tk.drop i = tks ++ z :: rest → Mk z 93 → tks.length < f →
 Ok52 ((lvB t).2 ≤ d) ((rowC tk sz (termP tk sz d) f acc i ns).andThen (listK tk sz d)) (listT acc (rnT V t ns).1, i + tks.length + 1, (rnT V t ns).2)
theorem rest_ok {c : Prop} {V : Int → List UInt8} {a : Nat → T} {d : Nat} : ∀ (r j : Nat) (tks : List Tk), (∀ i, i < j + r → TermOk tk sz V (a i) ∧ (c → (lvB (a i)).1 ≤ d)) → restTk (fun i => (tkB V (a i)).1) j r tks → ∀ (i : Nat) (ns : List ByteArray) (acc : List T) (f : Nat) (z : Tk) (rest : List Tk),
 tk.drop i = tks ++ z :: rest → Mk z 41 → tks.length < f →
 Ok52 c (rowC tk sz (termP tk sz d) f acc i ns) (acc ++ (rnRow (fun i => rnT V (a i)) j r ns).1, i + tks.length, (rnRow (fun i => rnT V (a i)) j r ns).2)
 | 0, j, tks, _, ht, i, ns, acc, f, z, rest, h, hz, hf => by
  obtain rfl : tks = [] := ht
  obtain ⟨f, rfl⟩ : ∃ g, f = g + 1 := ⟨f - 1, by omega⟩
  unfold rowC
  rw [isM_mk h hz]
  simp only [rnRow, List.append_nil, List.length_nil, Nat.add_zero]
  exact .inl rfl
 | r + 1, j, tks, ih, ht, i, ns, acc, f, z, rest, h, hz, hf => by
  obtain ⟨c, l0, l1, rfl, hc, h0, h1⟩ := ht
  obtain ⟨f, rfl⟩ : ∃ g, f = g + 1 := ⟨f - 1, by omega⟩
  simp only [List.cons_append, List.append_assoc] at h
  simp only [List.length_cons, List.length_append] at hf
  unfold rowC
  rw [isM_mk h hc, if_pos (by decide)]
  have hd := drop_one h
  have st : closeT 999 (l1 ++ z :: rest) := by
   cases r with
   | zero =>
    obtain rfl : l1 = [] := h1
    exact closeT.of _ (.inr (.inl hz))
   | succ r =>
    obtain ⟨c', l2, l3, rfl, hc', _⟩ := h1
    exact closeT.of _ (.inr (.inr (.inr (.inr (.inr ⟨hc', by decide⟩)))))
  refine Ok52.bind (((ih j (by omega)).1 l0 h0 d (i + 1) ns 999 _ hd (by decide) st).weak (ih j (by omega)).2) ?_
  have := rest_ok (d := d) r (j + 1) l1 (fun i hi => ih i (by omega)) h1 (i + 1 + l0.length) (rnT V (a j) ns).2 (acc ++ [(rnT V (a j) ns).1]) f z rest (drop_app hd) hz (by omega)
  simp only [rnRow, List.append_assoc, List.cons_append, List.nil_append] at this ⊢
  rw [show i + (c :: (l0 ++ l1)).length = i + 1 + l0.length + l1.length by simp only [List.length_cons, List.length_append]; omega]
  exact this
theorem term_ok {V : Int → List UInt8} : ∀ (t : T), t.wr → TermOk tk sz V t ∧ TailOk tk sz V t := by
 intro t
 induction t with
 | nil => exact fun h => h.elim
 | mk k n s m a ih =>
  intro hw
  have main : TermOk tk sz V (.mk k n s m a) := by
   intro tks ht d i ns most rest h hm hc
   cases d with
   | zero => exact .inr ⟨by have := lv_pos (.mk k n s m a); omega, _, rfl⟩
   | succ d =>
    have oper : ∀ (t' : T) (pr : Int) (ns' : List ByteArray) (x : Tk) (r : List Tk), tk.drop i = x :: r → Ok52 ((lvB (.mk k n s m a)).1 ≤ d + 1) (operandP tk sz (termP tk sz d) most i ns) ((t', pr), i + tks.length, ns') → Ok52 ((lvB (.mk k n s m a)).1 ≤ d + 1) (termP tk sz (d + 1) most i ns) (t', i + tks.length, ns') := fun t' pr ns' x r hx ho => by
     unfold termP
     refine Ok52.bind ho ?_
     rw [inf_stop hc (drop_app h) (tk_pos' hx)]
     exact .inl rfl
    rcases hw with ⟨rfl, hn⟩ | ⟨rfl, hn⟩ | ⟨rfl, hq⟩ | ⟨rfl, hq, hm0, hwa⟩
    ·rw [tk_var] at ht
     obtain ⟨x, rfl, h1, h2⟩ := ht
     refine oper _ 0 _ x rest h ?_
     unfold operandP
     rw [nx_at (h : tk.drop i = x :: rest)]
     dsimp only
     rw [if_neg (by rw [h1]; decide), if_pos h1, h2, rn_var]
     exact .inl rfl
    ·rw [rn_int]
     by_cases h0 : n < 0
     ·rw [tk_neg V h0] at ht
      obtain ⟨x, y, rfl, h1, h2, h3, h4, h5⟩ := ht
      have h : tk.drop i = x :: y :: rest := h
      refine oper _ 0 _ x _ h ?_
      unfold operandP
      rw [nx_at h]
      dsimp only
      rw [if_neg (by rw [h1]; decide), if_neg (by rw [h1]; decide), isM_other h (by rw [h1]; decide), isM_other h (by rw [h1]; decide), isM_other h (by rw [h1]; decide), if_neg (by rw [h1]; decide), if_neg (by decide), if_neg (by decide), if_pos h1]
      unfold namedP
      rw [nx_at (drop_one h)]
      dsimp only
      rw [if_neg (by rw [h3]; decide), if_pos ⟨by rw [h2, ba_toList], h3, h5⟩]
      unfold intP
      rw [h4, int_neg h0 hn.1]
      exact .inl rfl
     ·rw [tk_pos V h0] at ht
      obtain ⟨x, rfl, h1, h2⟩ := ht
      have h : tk.drop i = x :: rest := h
      refine oper _ 0 _ x _ h ?_
      unfold operandP
      rw [nx_at h]
      dsimp only
      rw [if_pos h1]
      unfold intP
      rw [h2, int_pos (by omega) hn.2]
      exact .inl rfl
    ·rw [rn_atom]
     by_cases h1 : s = nilS
     ·subst h1
      rw [tk_nil] at ht
      obtain ⟨x, y, rfl, hx, hy⟩ := ht
      have h : tk.drop i = x :: y :: rest := h
      refine oper _ 0 _ x _ h ?_
      unfold operandP
      rw [nx_at h]
      dsimp only
      rw [if_neg (by rw [hx.1]; decide), if_neg (by rw [hx.1]; decide), isM_mk h hx, isM_mk h hx, isM_mk h hx, if_neg (by rw [hx.1]; decide), if_pos (by decide)]
      unfold listP
      rw [isM_mk (drop_one h) hy, if_pos (by decide)]
      exact .inl rfl
     ·by_cases h2 : s = curS
      ·subst h2
       rw [tk_cur] at ht
       obtain ⟨x, y, rfl, hx, hy⟩ := ht
       have h : tk.drop i = x :: y :: rest := h
       refine oper _ 0 _ x _ h ?_
       unfold operandP
       rw [nx_at h]
       dsimp only
       rw [if_neg (by rw [hx.1]; decide), if_neg (by rw [hx.1]; decide), isM_mk h hx, isM_mk h hx, isM_mk h hx, if_neg (by rw [hx.1]; decide), if_neg (by decide), if_pos (by decide), isM_mk (drop_one h) hy, if_pos (by decide)]
       exact .inl rfl
      ·rw [tk_atom V h1 h2] at ht
       obtain ⟨x, rfl, h3, h4⟩ := ht
       have h : tk.drop i = x :: rest := h
       refine oper _ 0 _ x _ h ?_
       unfold operandP
       rw [nx_at h]
       dsimp only
       rw [if_neg (by rw [h3]; decide), if_neg (by rw [h3]; decide), isM_other h (by rw [h3]; decide), isM_other h (by rw [h3]; decide), isM_other h (by rw [h3]; decide), if_neg (by rw [h3]; decide), if_neg (by decide), if_neg (by decide), if_pos h3]
       unfold namedP
       obtain ⟨c4, c3⟩ := close_k (sz := sz) hc (drop_one h)
       dsimp only
       rw [if_neg c4, if_neg (fun e => c3 e.2.1), h4]
       cases ho : opPre s with
       | none => exact .inl rfl
       | some q =>
        obtain ⟨p1, p2⟩ := q
        dsimp only
        rw [if_neg (by rw [ends_stop hc (drop_one h)]; simp)]
        exact .inl rfl
    ·by_cases hp : s = dotS ∧ m = 2
     ·obtain ⟨rfl, rfl⟩ := hp
      rw [tk_pair] at ht
      obtain ⟨x, y, l0, l1, rfl, hx, hy, h0, h1⟩ := ht
      simp only [List.cons_append, List.append_assoc, List.nil_append] at h
      refine oper _ 0 _ x _ h ?_
      unfold operandP
      rw [nx_at h]
      dsimp only
      have hd := drop_one h
      rw [if_neg (by rw [hx.1]; decide), if_neg (by rw [hx.1]; decide), isM_mk h hx, isM_mk h hx, isM_mk h hx, if_neg (by rw [hx.1]; decide), if_pos (by decide)]
      have st : closeT 999 (l1 ++ y :: rest) := by
       cases hu : a 1 with
       | nil => have := hwa 1 (by omega); rw [hu] at this; exact this.elim
       | mk k' n' s' m' a' =>
        rw [hu] at h1
        by_cases hp' : k' = 4 ∧ s' = dotS ∧ m' = 2
        ·obtain ⟨rfl, rfl, rfl⟩ := hp'
         rw [tl_pair] at h1
         obtain ⟨c, l2, l3, rfl, hc', _⟩ := h1
         exact closeT.of _ (.inr (.inr (.inr (.inr (.inr ⟨hc', by decide⟩)))))
        ·by_cases hn' : k' = 3 ∧ s' = nilS
         ·obtain ⟨rfl, rfl⟩ := hn'
          rw [tl_nil] at h1
          subst h1
          exact closeT.of _ (.inr (.inr (.inl hy)))
         ·rw [tl_else V hp' hn'] at h1
          obtain ⟨c, l2, rfl, hc', _⟩ := h1
          exact closeT.of _ (.inr (.inr (.inr (.inr (.inl hc')))))
      have hlen : l1.length < tk.length := by
       have := congrArg List.length (drop_app hd)
       simp only [List.length_drop, List.length_append, List.length_cons] at this
       omega
      have hT := (ih 1 (hwa 1 (by omega))).2 l1 h1 d (i + 1 + l0.length) (rnT V (a 0) ns).2 [(rnT V (a 0) ns).1] tk.length y rest (drop_app hd) hy hlen
      have hlv := lv_pair n a
      have hL : Ok52 ((lvB (.mk 4 n dotS 2 a)).1 ≤ d + 1) (listP tk sz (termP tk sz d) (i + 1) ns) (twoT dotS (rnT V (a 0) ns).1 (rnT V (a 1) (rnT V (a 0) ns).2).1, i + 1 + l0.length + l1.length + 1, (rnT V (a 1) (rnT V (a 0) ns).2).2) := by
       unfold listP
       rw [first_ok (hwa 0 (by omega)) h0 hd, if_neg (by decide)]
       unfold rowP
       have hA := (ih 0 (hwa 0 (by omega))).1 l0 h0 d (i + 1) ns 999 _ hd (by decide) st
       rcases hA with hA | ⟨hc, p, hA⟩
       ·rw [hA]
        exact hT.weak (by rw [hlv]; dsimp only; omega)
       ·rw [hA]
        exact .inr ⟨by rw [hlv]; dsimp only; omega, p, rfl⟩
      rw [rn_pair, show i + (x :: (l0 ++ (l1 ++ [y]))).length = i + 1 + l0.length + l1.length + 1 by simp only [List.length_cons, List.length_append, List.length_nil]; omega]
      exact Ok52.bind hL (.inl rfl)
     ·rw [tk_cmp V hp] at ht
      obtain ⟨x, y, z, l0, l1, rfl, h1, h2, h3, hz, h0, hr⟩ := ht
      simp only [List.cons_append, List.append_assoc, List.nil_append] at h
      refine oper _ 0 _ x _ h ?_
      unfold operandP
      rw [nx_at h]
      dsimp only
      have hd := drop_one h
      have hd2 := drop_one hd
      rw [if_neg (by rw [h1]; decide), if_neg (by rw [h1]; decide), isM_other h (by rw [h1]; decide), isM_other h (by rw [h1]; decide), isM_other h (by rw [h1]; decide), if_neg (by rw [h1]; decide), if_neg (by decide), if_neg (by decide), if_pos h1]
      unfold namedP
      rw [nx_at hd]
      dsimp only
      rw [if_pos h3]
      have st : closeT 999 (l1 ++ z :: rest) := by
       cases hm1 : m - 1 with
       | zero =>
        rw [hm1] at hr
        obtain rfl : l1 = [] := hr
        exact closeT.of _ (.inr (.inl hz))
       | succ r =>
        rw [hm1] at hr
        obtain ⟨c', l2, l3, rfl, hc', _⟩ := hr
        exact closeT.of _ (.inr (.inr (.inr (.inr (.inr ⟨hc', by decide⟩)))))
      have hlen : l1.length < tk.length := by
       have := congrArg List.length (drop_app hd2)
       simp only [List.length_drop, List.length_append, List.length_cons] at this
       omega
      have hlv := lv_cmp hp n a
      have hlt : ∀ i, i < m → (lvB (.mk 4 n s m a)).1 ≤ d + 1 → (lvB (a i)).1 ≤ d := fun i hi h => by
       have := sup_ge (f := fun i => (lvB (a i)).1) hi
       rw [hlv] at h
       omega
      have hR : Ok52 ((lvB (.mk 4 n s m a)).1 ≤ d + 1) (rowP tk sz (termP tk sz d) (i + 1 + 1) ns) ((rnT V (a 0) ns).1 :: (rnRow (fun i => rnT V (a i)) 1 (m - 1) (rnT V (a 0) ns).2).1, i + 1 + 1 + l0.length + l1.length, (rnRow (fun i => rnT V (a i)) 1 (m - 1) (rnT V (a 0) ns).2).2) := by
       unfold rowP
       exact Ok52.bind (((ih 0 (hwa 0 hm0)).1 l0 h0 d (i + 1 + 1) ns 999 _ hd2 (by decide) st).weak (hlt 0 hm0))
        (rest_ok (m - 1) 1 l1 (fun i hi => ⟨(ih i (hwa i (by omega))).1, hlt i (by omega)⟩) hr (i + 1 + 1 + l0.length) (rnT V (a 0) ns).2 [(rnT V (a 0) ns).1] tk.length z rest (drop_app hd2) hz hlen)
      rw [rn_cmp V hp, show i + (x :: y :: (l0 ++ (l1 ++ [z]))).length = i + 1 + 1 + l0.length + l1.length + 1 by simp only [List.length_cons, List.length_append, List.length_nil]; omega]
      refine Ok52.bind hR ?_
      rw [must_mk (drop_app (drop_app hd2)) hz, h2]
      exact .inl rfl
  refine ⟨main, ?_⟩
  intro tks ht d i ns acc f z rest h hz hf
  obtain ⟨f, rfl⟩ : ∃ g, f = g + 1 := ⟨f - 1, by omega⟩
  by_cases hp : k = 4 ∧ s = dotS ∧ m = 2
  ·obtain ⟨rfl, rfl, rfl⟩ := hp
   have hwa : ∀ i, i < 2 → (a i).wr := by
    rcases hw with ⟨h, _⟩ | ⟨h, _⟩ | ⟨h, _⟩ | h
    ·exact absurd h (by decide)
    ·exact absurd h (by decide)
    ·exact absurd h (by decide)
    ·exact h.2.2.2
   rw [tl_pair] at ht
   obtain ⟨c, l0, l1, rfl, hc, h0, h1⟩ := ht
   simp only [List.cons_append, List.append_assoc] at h
   simp only [List.length_cons, List.length_append] at hf
   have hd := drop_one h
   have st : closeT 999 (l1 ++ z :: rest) := by
    cases hu : a 1 with
    | nil => have := hwa 1 (by omega); rw [hu] at this; exact this.elim
    | mk k' n' s' m' a' =>
     rw [hu] at h1
     by_cases hp' : k' = 4 ∧ s' = dotS ∧ m' = 2
     ·obtain ⟨rfl, rfl, rfl⟩ := hp'
      rw [tl_pair] at h1
      obtain ⟨c, l2, l3, rfl, hc', _⟩ := h1
      exact closeT.of _ (.inr (.inr (.inr (.inr (.inr ⟨hc', by decide⟩)))))
     ·by_cases hn' : k' = 3 ∧ s' = nilS
      ·obtain ⟨rfl, rfl⟩ := hn'
       rw [tl_nil] at h1
       subst h1
       exact closeT.of _ (.inr (.inr (.inl hz)))
      ·rw [tl_else V hp' hn'] at h1
       obtain ⟨c, l2, rfl, hc', _⟩ := h1
       exact closeT.of _ (.inr (.inr (.inr (.inr (.inl hc')))))
   have hA := (ih 0 (hwa 0 (by omega))).1 l0 h0 d (i + 1) ns 999 _ hd (by decide) st
   have hT := (ih 1 (hwa 1 (by omega))).2 l1 h1 d (i + 1 + l0.length) (rnT V (a 0) ns).2 (acc ++ [(rnT V (a 0) ns).1]) f z rest (drop_app hd) hz (by omega)
   rw [list_snoc] at hT
   unfold rowC
   rw [isM_mk h hc, if_pos (by decide), rn_pair, show i + (c :: (l0 ++ l1)).length + 1 = i + 1 + l0.length + l1.length + 1 by simp only [List.length_cons, List.length_append]; omega]
   have hlv := lv_pair n a
   rcases hA with hA | ⟨hc, p, hA⟩
   ·rw [hA]
    exact hT.weak (by rw [hlv]; dsimp only; omega)
   ·rw [hA]
    exact .inr ⟨by rw [hlv]; dsimp only; omega, p, rfl⟩
  ·by_cases h2 : k = 3 ∧ s = nilS
   ·obtain ⟨rfl, rfl⟩ := h2
    rw [tl_nil] at ht
    subst ht
    have h : tk.drop i = z :: rest := h
    unfold rowC
    rw [isM_mk h hz, if_neg (by decide), rn_atom]
    show Ok52 _ (listK tk sz d acc i ns) _
    unfold listK
    rw [isM_mk h hz, if_neg (by decide), must_mk h hz]
    exact .inl rfl
   ·rw [tl_else V hp h2] at ht
    obtain ⟨c, l0, rfl, hc, h0⟩ := ht
    have h : tk.drop i = c :: (l0 ++ z :: rest) := h
    have hd := drop_one h
    unfold rowC
    rw [isM_mk h hc, if_neg (by decide)]
    show Ok52 _ (listK tk sz d acc i ns) _
    unfold listK
    rw [isM_mk h hc, if_pos (by decide), show i + (c :: l0).length + 1 = i + 1 + l0.length + 1 by simp only [List.length_cons]; omega]
    rw [lv_else hp h2]
    refine Ok52.bind (main l0 h0 d (i + 1) ns 999 _ hd (by decide) (closeT.of _ (.inr (.inr (.inl hz))))) ?_
    rw [must_mk (drop_app hd) hz]
    exact .inl rfl
end
end Go.Proofs.YtlogcealmiokkaaGreatDoor
namespace Go.Proofs.YtlogcealmiokkaaGreatDoor
open Go.RowKit
def stopK (K : Int) (R : List UInt8) : Prop := R = [] ∨ ∃ c r, R = c :: r ∧ kindB K c.toNat = false
def stopC (c : UInt8) : Bool := !(kindB 1 c.toNat) && !(kindB 2 c.toNat) && !(kindB 3 c.toNat) && !(c == 39)
def stopR (R : List UInt8) : Prop := R = [] ∨ ∃ c r, R = c :: r ∧ stopC c = true
theorem stopR.k {R : List UInt8} (h : stopR R) {K : Int} (hK : K = 1 ∨ K = 2 ∨ K = 3) : stopK K R := by
 rcases h with h | ⟨c, r, h, hc⟩
 ·exact .inl h
 ·refine .inr ⟨c, r, h, ?_⟩
  simp only [stopC, Bool.and_eq_true, Bool.not_eq_true'] at hc
  rcases hK with rfl | rfl | rfl
  ·exact hc.1.1.1
  ·exact hc.1.1.2
  ·exact hc.1.2
theorem stopR_of {c : UInt8} (r : List UInt8) (h : stopC c = true) : stopR (c :: r) := .inr ⟨c, r, rfl, h⟩
theorem bu_drop {u : ByteArray} {p : Nat} {L : List UInt8} (h : u.data.toList.drop p = L) (i : Nat) : bu u (p + i) = L.getD i 0 := by
 unfold bu
 rw [← h]
 simp [List.getD_eq_getElem?_getD, List.getElem?_drop]
theorem bu_here {u : ByteArray} {p : Nat} {c : UInt8} {L : List UInt8} (h : u.data.toList.drop p = c :: L) : bu u p = c := bu_drop h 0
theorem bn_here {u : ByteArray} {p : Nat} {c : UInt8} {L : List UInt8} (h : u.data.toList.drop p = c :: L) : (bn u p : Int) = (c.toNat : Int) := by rw [bn_bu, bu_here h]
theorem len_u (u : ByteArray) : u.data.toList.length = u.size := Array.length_toList
theorem drop_lt {u : ByteArray} {p : Nat} {L : List UInt8} (h : u.data.toList.drop p = L) (hL : L ≠ []) : p < u.size := by
 have := len_u u
 rcases Nat.lt_or_ge p u.size with h1 | h1
 ·exact h1
 ·rw [List.drop_eq_nil_of_le (by omega)] at h
  exact absurd h.symm hL
theorem drop_more {u : ByteArray} {p : Nat} {A B : List UInt8} (h : u.data.toList.drop p = A ++ B) : u.data.toList.drop (p + A.length) = B := by
 rw [← List.drop_drop, h, List.drop_left]
theorem drop_le {u : ByteArray} {p : Nat} {A B : List UInt8} (h : u.data.toList.drop p = A ++ B) (hA : A ≠ []) : p + A.length ≤ u.size := by
 have h1 : (u.data.toList.drop p).length = A.length + B.length := by rw [h, List.length_append]
 have h2 := drop_lt h (by cases A with | nil => exact absurd rfl hA | cons c A => simp)
 rw [List.length_drop, len_u] at h1
 omega
theorem run_word {K : Int} {u : ByteArray} : ∀ (W : List UInt8) (p : Nat) (R : List UInt8), u.data.toList.drop p = W ++ R → (∀ c ∈ W, kindB K c.toNat = true) → stopK K R → runN K u p = p + W.length
 | [], p, R, h, _, hR => by
  rcases hR with rfl | ⟨c, r, rfl, hc⟩
  ·have := len_u u
   have h2 : (u.data.toList.drop p).length = 0 := by rw [h]; rfl
   rw [List.length_drop] at h2
   rw [runN_end (by omega)]
   rfl
  ·rw [runN_stop (by rw [bn_here h]; exact hc)]
   rfl
 | c :: W, p, R, h, hW, hR => by
  have hp := drop_lt h (by simp)
  have hk : kindB K (bn u p) = true := by rw [bn_here h]; exact hW c List.mem_cons_self
  rw [runN_step hp hk, run_word W (p + 1) R (by have := drop_more (A := [c]) (B := W ++ R) h; exact this) (fun d hd => hW d (List.mem_cons_of_mem _ hd)) hR]
  simp only [List.length_cons]
  omega
theorem extract_word {u : ByteArray} {p : Nat} {W R : List UInt8} (h : u.data.toList.drop p = W ++ R) : u.extract p (p + W.length) = ba W := by
 apply bytes_same
 simp only [ByteArray.data_extract, Array.toList_extract, List.extract]
 rw [h, show p + W.length - p = W.length by omega, List.take_left]
 simp [ba]
def LexTo (u : ByteArray) (p : Nat) (l : List Tk) (p' : Nat) (l' : List Tk) : Prop := (toksN u p l = toksN u p' l' ∧ l'.length ≤ 1000) ∨ (l.length = 1000 ∧ ∃ q, toksN u p l = .bad q 34)
theorem toks_word {u : ByteArray} {p : Nat} {W R : List UInt8} {K : Int} {l : List Tk} (h : u.data.toList.drop p = W ++ R) (hW : W ≠ []) (hb : blankB (bn u p) = false) (h37 : ((bn u p : Int) == 37) = false)
 (h2 : twoB u p 47 42 = false) (h39 : ((bn u p : Int) == 39) = false) (hh : headN u p l.getLast? = some (K, p + W.length)) (hl : l.length ≤ 1000) : LexTo u p l (p + W.length) (l ++ [⟨K, ba W, p, p + W.length⟩]) := by
 have hp := drop_lt h (by cases W with | nil => exact absurd rfl hW | cons c W => simp)
 have e : toksN u p l = match oneN u p l with
  | .ok x => toksN u x.b (l ++ [x])
  | .bad p e => .bad p e := by
  rw [toksN_one hp, bet_none hp hb h37 h2]
  dsimp only
  rw [if_neg (by omega)]
  cases oneN u p l <;> rfl
 unfold oneN at e
 rw [hh] at e
 dsimp only at e
 by_cases h1 : l.length = 1000
 ·rw [if_pos h1] at e
  exact .inr ⟨h1, p, e⟩
 ·rw [if_neg h1, h39, extract_word h] at e
  refine .inl ⟨e, ?_⟩
  rw [List.length_append, List.length_singleton]
  omega
theorem digit_facts {c : Int} (h : digitB c = true) : blankB c = false ∧ (c == 37) = false ∧ (c == 39) = false ∧ (c == 46) = false ∧ (c == 47) = false ∧ smallB c = false ∧ greatB c = false := by
 simp only [digitB, Bool.and_eq_true, decide_eq_true_eq] at h
 refine ⟨?_, ?_, ?_, ?_, ?_, ?_, ?_⟩
 ·simp only [blankB, Bool.or_eq_false_iff, beq_eq_false_iff_ne]; omega
 ·rw [beq_eq_false_iff_ne]; omega
 ·rw [beq_eq_false_iff_ne]; omega
 ·rw [beq_eq_false_iff_ne]; omega
 ·rw [beq_eq_false_iff_ne]; omega
 ·simp only [smallB, Bool.and_eq_false_iff, decide_eq_false_iff_not]; omega
 ·simp only [greatB, Bool.or_eq_false_iff, Bool.and_eq_false_iff, decide_eq_false_iff_not]; omega
theorem two_first {u : ByteArray} {p : Nat} {a b : Int} (h : ((bn u p : Int) == a) = false) : twoB u p a b = false := by unfold twoB; rw [h]; simp
theorem two_second {u : ByteArray} {p : Nat} {a b : Int} (h : ((bn u (p + 1) : Int) == b) = false) : twoB u p a b = false := by unfold twoB; rw [h]; simp
theorem tok_int {u : ByteArray} {p : Nat} {W R : List UInt8} {l : List Tk} (h : u.data.toList.drop p = W ++ R) (hW : W ≠ []) (hd : ∀ c ∈ W, 48 ≤ c.toNat ∧ c.toNat ≤ 57) (hR : stopR R) (hl : l.length ≤ 1000) :
 ∃ x : Tk, x.k = 3 ∧ x.t = ba W ∧ x.a = p ∧ x.b = p + W.length ∧ LexTo u p l (p + W.length) (l ++ [x]) := by
 obtain ⟨c, r, e⟩ : ∃ c r, W = c :: r := by
  cases W with
  | nil => exact absurd rfl hW
  | cons c r => exact ⟨c, r, rfl⟩
 have hb : (bn u p : Int) = (c.toNat : Int) := bn_here (L := r ++ R) (by rw [h, e]; rfl)
 have dig : ∀ c ∈ W, digitB c.toNat = true := fun c hc => by
  have := hd c hc
  simp only [digitB, Bool.and_eq_true, decide_eq_true_eq]
  omega
 have hc := dig c (by rw [e]; exact List.mem_cons_self)
 obtain ⟨f1, f2, f3, f4, f5, f6, f7⟩ := digit_facts hc
 rw [← hb] at f1 f2 f3 f4 f5 f6 f7 hc
 refine ⟨⟨3, ba W, p, p + W.length⟩, rfl, rfl, rfl, rfl, toks_word h hW f1 f2 (two_first f5) f3 ?_ hl⟩
 unfold headN
 rw [f4, f6, f7, hc, run_word W p R h (fun c hc => by simp [kindB, dig c hc]) (hR.k (.inr (.inl rfl)))]
 simp
theorem minus_facts : blankB 45 = false ∧ ((45 : Int) == 37) = false ∧ ((45 : Int) == 39) = false ∧ ((45 : Int) == 46) = false ∧ ((45 : Int) == 47) = false ∧ smallB 45 = false ∧ greatB 45 = false ∧ digitB 45 = false ∧ signB 45 = true := by decide
theorem tok_minus {u : ByteArray} {p : Nat} {R : List UInt8} {l : List Tk} (h : u.data.toList.drop p = 45 :: R) (hR : stopK 3 R) (hl : l.length ≤ 1000) :
 ∃ x : Tk, x.k = 1 ∧ x.t = ba [45] ∧ x.a = p ∧ x.b = p + 1 ∧ LexTo u p l (p + 1) (l ++ [x]) := by
 have hb : (bn u p : Int) = 45 := bn_here h
 obtain ⟨f1, f2, f3, f4, f5, f6, f7, f8, f9⟩ := minus_facts
 rw [← hb] at f1 f2 f3 f4 f5 f6 f7 f8 f9
 refine ⟨⟨1, ba [45], p, p + 1⟩, rfl, rfl, rfl, rfl, toks_word (W := [45]) (R := R) h (by simp) f1 f2 (two_first f5) f3 ?_ hl⟩
 unfold headN
 rw [f4, f6, f7, f8, f9, run_word [45] p R h (fun c hc => by rw [List.mem_singleton.1 hc]; decide) hR]
 simp
theorem mark_facts {c : UInt8} (h : markB c.toNat = true) : blankB c.toNat = false ∧ (((c.toNat : Nat) : Int) == 37) = false ∧ (((c.toNat : Nat) : Int) == 39) = false ∧ (((c.toNat : Nat) : Int) == 46) = false ∧ (((c.toNat : Nat) : Int) == 47) = false ∧ smallB c.toNat = false ∧ greatB c.toNat = false ∧ digitB c.toNat = false ∧ signB c.toNat = false ∧ ((((c.toNat : Nat) : Int) == 33) = false ∧ (((c.toNat : Nat) : Int) == 59) = false) := by
 simp only [markB, Bool.or_eq_true, beq_iff_eq] at h
 have h2 : ∀ d : Int, (((((((d = 40 ∨ d = 41) ∨ d = 91) ∨ d = 93) ∨ d = 123) ∨ d = 125) ∨ d = 44) ∨ d = 124) → blankB d = false ∧ (d == 37) = false ∧ (d == 39) = false ∧ (d == 46) = false ∧ (d == 47) = false ∧ smallB d = false ∧ greatB d = false ∧ digitB d = false ∧ signB d = false ∧ ((d == 33) = false ∧ (d == 59) = false) := by
  rintro d (((((((rfl | rfl) | rfl) | rfl) | rfl) | rfl) | rfl) | rfl) <;> decide
 exact h2 _ h
theorem tok_mark {u : ByteArray} {p : Nat} {c : UInt8} {R : List UInt8} {l : List Tk} (h : u.data.toList.drop p = c :: R) (hm : markB c.toNat = true) (h40 : c ≠ 40) (hl : l.length ≤ 1000) :
 ∃ x : Tk, Mk x c ∧ x.a = p ∧ x.b = p + 1 ∧ LexTo u p l (p + 1) (l ++ [x]) := by
 have hb : (bn u p : Int) = (c.toNat : Int) := bn_here h
 obtain ⟨f1, f2, f3, f4, f5, f6, f7, f8, f9, f10, f11⟩ := mark_facts hm
 have h40' : (((c.toNat : Nat) : Int) == 40) = false := by
  rw [beq_eq_false_iff_ne]
  intro e
  exact h40 (UInt8.toNat_inj.1 (by have : c.toNat = 40 := by omega
                                   rw [this]; rfl))
 rw [← hb] at f1 f2 f3 f4 f5 f6 f7 f8 f9 f10 f11 hm h40'
 refine ⟨⟨5, ba [c], p, p + 1⟩, ⟨rfl, rfl⟩, rfl, rfl, toks_word (W := [c]) (R := R) h (by simp) f1 f2 (two_first f5) f3 ?_ hl⟩
 unfold headN
 rw [f4, f6, f7, f8, f9, f10, f11, f3, hm, h40']
 simp
theorem tok_open {u : ByteArray} {p : Nat} {R : List UInt8} {l : List Tk} {y : Tk} (h : u.data.toList.drop p = 40 :: R) (hy : y.k = 1) (hyb : y.b = p) (hl : (l ++ [y]).length ≤ 1000) :
 ∃ x : Tk, x.k = 4 ∧ x.a = p ∧ x.b = p + 1 ∧ LexTo u p (l ++ [y]) (p + 1) (l ++ [y] ++ [x]) := by
 have hb : (bn u p : Int) = 40 := bn_here h
 obtain ⟨f1, f2, f3, f4, f5, f6, f7, f8, f9, f10, f11⟩ := mark_facts (c := 40) (by decide)
 have hm : markB ((40 : UInt8).toNat : Int) = true := by decide
 have e40 : (((40 : UInt8).toNat : Nat) : Int) = 40 := rfl
 rw [e40, ← hb] at f1 f2 f3 f4 f5 f6 f7 f8 f9 f10 f11 hm
 refine ⟨⟨4, ba [40], p, p + 1⟩, rfl, rfl, rfl, toks_word (W := [40]) (R := R) h (by simp) f1 f2 (two_first f5) f3 ?_ hl⟩
 unfold headN
 rw [f4, f6, f7, f8, f9, f10, f11, f3, hm, hb]
 simp [opens, hy, hyb]
theorem quo_at (i : Nat) {u : ByteArray} {R : List UInt8} (hR : R = [] ∨ ∃ c r, R = c :: r ∧ c ≠ 39) : ∀ (r x b : List UInt8) (k : Nat), escN r = some x → u.data.toList.drop k = x ++ 39 :: R → quoN u i k b = .ok (b ++ r) (k + x.length + 1)
 | [], x, b, k, h, hd => by
  injection h with h
  subst h
  have hk := drop_lt hd (by simp)
  have h1 : (bn u k : Int) = 39 := bn_here hd
  have h2 : twoB u k 39 39 = false := by
   rcases hR with rfl | ⟨c, r, rfl, hc⟩
   ·have := drop_more (A := [39]) (B := []) hd
    have h3 := len_u u
    have h4 : (u.data.toList.drop (k + [(39 : UInt8)].length)).length = 0 := by rw [this]; rfl
    rw [List.length_drop] at h4
    simp only [List.length_singleton] at h4
    unfold twoB
    rw [decide_eq_false (by omega)]
    simp
   ·have this : u.data.toList.drop (k + 1) = c :: r := drop_more (A := [39]) (B := c :: r) hd
    refine two_second ?_
    rw [bn_here this]
    exact (byte_eq c 39).trans (decide_eq_false hc)
  rw [quoN_eq hk, h2, h1]
  simp
 | c :: r, x, b, k, h, hd => by
  simp only [escN] at h
  cases hc : esc1 c with
  | none => rw [hc] at h; cases h
  | some y =>
   cases hr : escN r with
   | none => rw [hc, hr] at h; cases h
   | some z =>
    rw [hc, hr] at h
    injection h with h
    subst h
    have hd2 : u.data.toList.drop k = y ++ (z ++ 39 :: R) := by rw [hd, List.append_assoc]
    have hd' := drop_more hd2
    have hk := drop_lt hd (by simp)
    have ih := quo_at i hR r z (b ++ [c]) (k + y.length) hr hd'
    have e2 : b ++ [c] ++ r = b ++ c :: r := by simp
    have e3 : k + (y ++ z).length + 1 = k + y.length + z.length + 1 := by simp; omega
    rw [e3, ← e2, ← ih]
    have hb : ∀ j, j < y.length → bu u (k + j) = y.getD j 0 := fun j hj => by
     rw [bu_drop hd2]
     simp only [List.getD_eq_getElem?_getD]
     rw [List.getElem?_append_left hj]
    have two0 : ∀ d : UInt8, d ≠ 39 → bu u k = d → twoB u k 39 39 = false := fun d hd he => by
     refine two_first ?_
     rw [bn_bu, he]
     exact (byte_eq d 39).trans (decide_eq_false hd)
    have pair : ∀ d : UInt8, y = [92, d] → (d = 110 ∧ c = 10 ∨ d = 116 ∧ c = 9 ∨ (d = 92 ∨ d = 39) ∧ c = d) → quoN u i k b = quoN u i (k + y.length) (b ++ [c]) := fun d hy hdd => by
     have hl : y.length = 2 := by rw [hy]; rfl
     have h0 := hb 0 (by omega)
     have h1 := hb 1 (by omega)
     rw [hy] at h0 h1
     have h0 : bu u k = 92 := h0
     have h1 : bu u (k + 1) = d := h1
     have hk1 : k + 1 < u.size := by
      have := drop_le hd2 (by rw [hy]; simp)
      have h3 := drop_lt hd' (by simp)
      omega
     rw [quoN_eq hk, two0 92 (by decide) h0, hl]
     have n0 : (bn u k : Int) = 92 := by rw [bn_bu, h0]; rfl
     have n1 : (bn u (k + 1) : Int) = (d.toNat : Int) := by rw [bn_bu, h1]
     rw [n0, n1, h1]
     simp only [Bool.false_eq_true, if_false]
     rw [if_neg (by decide), if_pos (by decide), if_neg (by omega)]
     rcases hdd with ⟨rfl, rfl⟩ | ⟨rfl, rfl⟩ | ⟨rfl | rfl, rfl⟩
     ·rw [if_pos (by decide)]
     ·rw [if_neg (by decide), if_pos (by decide)]
     ·rw [if_neg (by decide), if_neg (by decide), if_pos (by decide)]
     ·rw [if_neg (by decide), if_neg (by decide), if_pos (by decide)]
    unfold esc1 at hc
    split at hc
    ·rename_i h10
     injection hc with hc
     exact pair 110 hc.symm (.inl ⟨rfl, h10⟩)
    ·split at hc
     ·rename_i h9
      injection hc with hc
      exact pair 116 hc.symm (.inr (.inl ⟨rfl, h9⟩))
     ·split at hc
      ·rename_i h9
       injection hc with hc
       exact pair c hc.symm (.inr (.inr ⟨h9, rfl⟩))
      ·rename_i h99
       split at hc
       ·cases hc
       ·rename_i hrange
        injection hc with hc
        have hl : y.length = 1 := by rw [← hc]; rfl
        have h0 := hb 0 (by omega)
        rw [← hc] at h0
        have h0 : bu u k = c := h0
        have n0 : (bn u k : Int) = (c.toNat : Int) := by rw [bn_bu, h0]
        rw [quoN_eq hk, two0 c (fun e => h99 (.inr e)) h0, hl, n0, h0]
        have m1 : (((c.toNat : Nat) : Int) == 39) = false := (byte_eq c 39).trans (decide_eq_false fun e => h99 (.inr e))
        have m2 : (((c.toNat : Nat) : Int) == 92) = false := (byte_eq c 92).trans (decide_eq_false fun e => h99 (.inl e))
        rw [m1, m2, decide_eq_false (by omega : ¬ ((c.toNat : Nat) : Int) < 32), decide_eq_false (by omega : ¬ (126 : Int) < ((c.toNat : Nat) : Int))]
        simp
theorem quote_facts : blankB 39 = false ∧ ((39 : Int) == 37) = false ∧ ((39 : Int) == 47) = false := by decide
theorem tok_atom {u : ByteArray} {p : Nat} {s : ByteArray} {R : List UInt8} {l : List Tk} (h : u.data.toList.drop p = (quoteN s).data.toList ++ R) (hq : (quoteN s).size ≠ 0) (hR : stopR R) (hl : l.length ≤ 1000) :
 ∃ x : Tk, x.k = 1 ∧ x.t = s ∧ x.a = p ∧ x.b = p + (quoteN s).data.toList.length ∧ LexTo u p l (p + (quoteN s).data.toList.length) (l ++ [x]) := by
 cases hpl : plainN s with
 | false =>
  have e : quoteN s = match escN s.data.toList with
   | some l => quotedN l
   | none => ⟨#[]⟩ := by unfold quoteN; rw [hpl]; rfl
  cases hx : escN s.data.toList with
  | none => rw [e, hx] at hq; exact absurd rfl hq
  | some x =>
   rw [hx] at e
   dsimp only at e
   have e2 : (quoteN s).data.toList = 39 :: (x ++ [39]) := by rw [e]; rfl
   rw [e2] at h ⊢
   have hd : u.data.toList.drop p = [39] ++ (x ++ 39 :: R) := by rw [h]; simp
   have hp := drop_lt h (by simp)
   have hb : (bn u p : Int) = 39 := bn_here h
   obtain ⟨f1, f2, f3⟩ := quote_facts
   rw [← hb] at f1 f2 f3
   have hR' : R = [] ∨ ∃ c r, R = c :: r ∧ c ≠ 39 := by
    rcases hR with h | ⟨c, r, h, hc⟩
    ·exact .inl h
    ·refine .inr ⟨c, r, h, fun e => ?_⟩
     rw [e] at hc
     exact absurd hc (by decide)
   have hqn := quo_at p hR' s.data.toList x [] (p + 1) hx (drop_more hd)
   have hlen : p + (39 :: (x ++ [39])).length = p + 1 + x.length + 1 := by simp; omega
   rw [hlen]
   refine ⟨⟨1, ⟨([] ++ s.data.toList).toArray⟩, p, p + 1 + x.length + 1⟩, rfl, by simp, rfl, rfl, ?_⟩
   have et : toksN u p l = match oneN u p l with
    | .ok x => toksN u x.b (l ++ [x])
    | .bad p e => .bad p e := by
    rw [toksN_one hp, bet_none hp f1 f2 (two_first f3)]
    dsimp only
    rw [if_neg (by omega)]
    cases oneN u p l <;> rfl
   unfold oneN at et
   rw [headN_quote hb] at et
   dsimp only at et
   by_cases h1 : l.length = 1000
   ·rw [if_pos h1] at et
    exact .inr ⟨by assumption, p, et⟩
   ·rw [if_neg h1, if_pos (by rw [hb]; rfl), hqn] at et
    refine .inl ⟨et, ?_⟩
    rw [List.length_append, List.length_singleton]
    omega
 | true =>
  have e : quoteN s = s := by unfold quoteN; rw [hpl]; rfl
  rw [e] at h hq ⊢
  have hs : 0 < s.size := by omega
  have hsl := len_u s
  have hW : s.data.toList ≠ [] := fun h0 => by rw [h0] at hsl; simp at hsl; omega
  have hp := drop_lt h (by simp [hW])
  have hbu : ∀ j, j < s.size → bu u (p + j) = bu s j := fun j hj => by
   rw [bu_drop h]
   unfold bu
   simp only [List.getD_eq_getElem?_getD]
   rw [List.getElem?_append_left (by omega)]
  have hbn : ∀ j, j < s.size → bn u (p + j) = bn s j := fun j hj => by rw [bn_bu, hbu j hj, ← bn_bu]
  have hb0 : bn u p = bn s 0 := hbn 0 hs
  have hmem : ∀ K, runN K s 0 = s.size → ∀ c ∈ s.data.toList, kindB K c.toNat = true := fun K hr c hc => by
   obtain ⟨j, hj, hjc⟩ := List.getElem_of_mem hc
   have := run_all hr (i := j) (by omega)
   rw [bn_bu] at this
   unfold bu at this
   rw [List.getD_eq_getElem?_getD, List.getElem?_eq_getElem hj, Option.getD_some, hjc] at this
   exact this
  have hba : ba s.data.toList = s := by apply ByteArray.ext; simp [ba]
  have hsz : s.data.toList.length = s.size := hsl
  have fin : blankB (bn u p) = false → ((bn u p : Int) == 37) = false → twoB u p 47 42 = false → ((bn u p : Int) == 39) = false → headN u p l.getLast? = some (1, p + s.data.toList.length) →
   ∃ x : Tk, x.k = 1 ∧ x.t = s ∧ x.a = p ∧ x.b = p + s.data.toList.length ∧ LexTo u p l (p + s.data.toList.length) (l ++ [x]) := fun h1 h2 h3 h4 h5 =>
   ⟨⟨1, ba s.data.toList, p, p + s.data.toList.length⟩, rfl, hba, rfl, rfl, toks_word h hW h1 h2 h3 h4 h5 hl⟩
  unfold plainN at hpl
  rw [Bool.and_eq_true, decide_eq_true_eq] at hpl
  obtain ⟨_, hpl⟩ := hpl
  cases hsm : smallB (bn s 0) with
  | true =>
   rw [hsm, if_pos rfl, decide_eq_true_eq] at hpl
   obtain ⟨f1, f2, f3, f4, f5⟩ := small_facts hsm
   rw [← hb0] at f1 f2 f3 f4 f5 hsm
   refine fin f1 f2 (two_first f5) f3 ?_
   unfold headN
   rw [f4, hsm, run_word _ p R h (hmem 1 hpl) (hR.k (.inl rfl))]
   simp
  | false =>
   rw [hsm] at hpl
   simp only [Bool.false_eq_true, if_false] at hpl
   cases hsi : signB (bn s 0) with
   | true =>
    rw [hsi, if_pos rfl, Bool.and_eq_true, Bool.and_eq_true, decide_eq_true_eq] at hpl
    obtain ⟨⟨hdot, htwo⟩, hrun⟩ := hpl
    obtain ⟨f1, f2, f3, f4, f5, f6⟩ := sign_facts hsi
    have htwo' : twoB s 0 47 42 = false := by simpa using htwo
    have hsm' := hsm
    rw [← hb0] at f1 f2 f3 f4 f5 f6 hsi hsm'
    have h2 : twoB u p 47 42 = false := by
     cases h47 : ((bn u p : Int) == 47) with
     | false => exact two_first h47
     | true =>
      refine two_second ?_
      by_cases h1 : s.size = 1
      ·have hd1 := drop_more h
       rw [hsz, h1] at hd1
       rcases hR with rfl | ⟨c, r, rfl, hc⟩
       ·have h3 := len_u u
        have h4 : (u.data.toList.drop (p + 1)).length = 0 := by rw [hd1]; rfl
        rw [List.length_drop] at h4
        have : bn u (p + 1) = 0 := by
         unfold bn
         rw [List.getD_eq_getElem?_getD, List.getElem?_eq_none (by omega)]
         rfl
        rw [this]
        rfl
       ·rw [bn_here hd1]
        cases h42 : (((c.toNat : Nat) : Int) == 42) with
        | false => rfl
        | true =>
         have : c = 42 := of_decide_eq_true ((byte_eq c 42).symm.trans h42)
         rw [this] at hc
         exact absurd hc (by decide)
      ·rw [hbn 1 (by omega)]
       unfold twoB at htwo'
       rw [← hb0, h47, decide_eq_true (show 0 + 1 < s.size by omega)] at htwo'
       simpa using htwo'
    have hd : ((bn u p : Int) == 46 && (decide (p + 1 = u.size) || blankB (bn u (p + 1)) || (bn u (p + 1) : Int) == 37)) = false := by
     cases h46 : ((bn u p : Int) == 46) with
     | false => rfl
     | true =>
      rw [← hb0, h46] at hdot
      have h1 : s.size ≠ 1 := by simpa using hdot
      have hk := run_all hrun (i := 1) (by omega)
      have hsg : signB (bn s 1) = true := by simpa [kindB] using hk
      obtain ⟨_, _, _, g4, g5, _⟩ := sign_facts hsg
      rw [← hbn 1 (by omega)] at g4 g5
      have h3 := drop_le h hW
      rw [g4, g5, decide_eq_false (by omega)]
      rfl
    refine fin f4 f5 h2 f6 ?_
    unfold headN
    rw [hd, f1, f2, f3, hsi, run_word _ p R h (hmem 3 hrun) (hR.k (.inr (.inr rfl)))]
    simp
   | false =>
    rw [hsi] at hpl
    simp only [Bool.false_eq_true, if_false, Bool.and_eq_true, decide_eq_true_eq, Bool.or_eq_true, beq_iff_eq] at hpl
    obtain ⟨hc, h1⟩ := hpl
    have f : ∀ c : Int, (c = 33 ∨ c = 59) → blankB c = false ∧ (c == 37) = false ∧ (c == 39) = false ∧ (c == 46) = false ∧ (c == 47) = false ∧ greatB c = false ∧ digitB c = false ∧ (c == 33 || c == 59) = true := by
     rintro c (rfl | rfl) <;> exact ⟨by decide, by decide, by decide, by decide, by decide, by decide, by decide, by decide⟩
    obtain ⟨f1, f2, f3, f4, f5, f6, f7, f8⟩ := f _ hc
    rw [← hb0] at f1 f2 f3 f4 f5 f6 f7 f8 hsi hsm
    refine fin f1 f2 (two_first f5) f3 ?_
    unfold headN
    rw [f4, hsm, f6, f7, hsi, f8, hsz, h1]
    simp
theorem digits_stop3 (u : Nat) (R : List UInt8) : stopK 3 (Lib.decDigits u ++ R) := by
 cases hd : Lib.decDigits u with
 | nil => exact absurd hd (dec_ne _)
 | cons c l =>
  refine .inr ⟨c, l ++ R, rfl, ?_⟩
  have := dec_digits u c (by rw [hd]; exact List.mem_cons_self)
  have h2 : ∀ n : Nat, 48 ≤ n → n ≤ 57 → kindB 3 n = false := by
   intro n h0 h1
   have : n = 48 ∨ n = 49 ∨ n = 50 ∨ n = 51 ∨ n = 52 ∨ n = 53 ∨ n = 54 ∨ n = 55 ∨ n = 56 ∨ n = 57 := by omega
   rcases this with rfl | rfl | rfl | rfl | rfl | rfl | rfl | rfl | rfl | rfl <;> decide
  exact h2 _ this.1 this.2
def LexP (u : ByteArray) (p : Nat) (l : List Tk) (p' : Nat) (P : List Tk → Prop) : Prop := (∃ tks, P tks ∧ toksN u p l = toksN u p' (l ++ tks) ∧ (l ++ tks).length ≤ 1000) ∨ ∃ q, toksN u p l = .bad q 34
theorem LexP.one {u : ByteArray} {p p' : Nat} {l : List Tk} {x : Tk} {P : List Tk → Prop} (h : LexTo u p l p' (l ++ [x])) (hP : P [x]) : LexP u p l p' P := by
 rcases h with ⟨h, hl⟩ | h
 ·exact .inl ⟨[x], hP, h, hl⟩
 ·exact .inr h.2
theorem LexP.bind {u : ByteArray} {p p1 p2 : Nat} {l : List Tk} {P Q : List Tk → Prop} (h : LexP u p l p1 P) (h2 : ∀ a, P a → (l ++ a).length ≤ 1000 → LexP u p1 (l ++ a) p2 fun b => Q (a ++ b)) : LexP u p l p2 Q := by
 rcases h with ⟨a, ha, h, hl⟩ | h
 ·rcases h2 a ha hl with ⟨b, hb, h3, hl3⟩ | ⟨q, h3⟩
  ·exact .inl ⟨a ++ b, hb, by rw [h, h3, List.append_assoc], by rw [← List.append_assoc]; exact hl3⟩
  ·exact .inr ⟨q, h.trans h3⟩
 ·exact .inr h
theorem LexP.mono {u : ByteArray} {p p1 : Nat} {l : List Tk} {P Q : List Tk → Prop} (h : LexP u p l p1 P) (hq : ∀ a, P a → Q a) : LexP u p l p1 Q := by
 rcases h with ⟨a, ha, h⟩ | h
 ·exact .inl ⟨a, hq a ha, h⟩
 ·exact .inr h
theorem LexP.at {u : ByteArray} {p p1 p2 : Nat} {l : List Tk} {P : List Tk → Prop} (h : LexP u p l p1 P) (e : p1 = p2) : LexP u p l p2 P := e ▸ h
theorem LexP.mark {u : ByteArray} {p : Nat} {c : UInt8} {R : List UInt8} {l : List Tk} (h : u.data.toList.drop p = c :: R) (hm : markB c.toNat = true) (h40 : c ≠ 40) (hl : l.length ≤ 1000) : LexP u p l (p + 1) fun tks => ∃ x, tks = [x] ∧ Mk x c := by
 obtain ⟨x, hx, _, _, hL⟩ := tok_mark h hm h40 hl
 exact .one hL ⟨x, rfl, hx⟩
theorem LexP.none {u : ByteArray} {p : Nat} {l : List Tk} {P : List Tk → Prop} (hl : l.length ≤ 1000) (h : P []) : LexP u p l p P := .inl ⟨[], h, by rw [List.append_nil], by rw [List.append_nil]; exact hl⟩
end Go.Proofs.YtlogcealmiokkaaGreatDoor
namespace Go.Proofs.YtlogcealmiokkaaGreatDoor
open Go.RowKit
def noEnd (l : List Tk) : Prop := ∀ x ∈ l, x.k ≠ 6
theorem noEnd.app {a b : List Tk} (h : noEnd a) (h' : noEnd b) : noEnd (a ++ b) := fun x hx => (List.mem_append.1 hx).elim (h x) (h' x)
theorem noEnd.cons {x : Tk} {b : List Tk} (h : x.k ≠ 6) (h' : noEnd b) : noEnd (x :: b) := fun y hy => (List.mem_cons.1 hy).elim (fun e => e ▸ h) (h' y)
theorem noEnd.nil : noEnd [] := fun _ h => by cases h
theorem Mk.no {x : Tk} {c : UInt8} (h : Mk x c) : x.k ≠ 6 := by rw [h.1]; decide
theorem rest_noEnd {f : Nat → List Tk → Prop} : ∀ (r j : Nat) (l : List Tk), (∀ i, i < j + r → ∀ l, f i l → noEnd l) → restTk f j r l → noEnd l
 | 0, _, l, _, h => by obtain rfl : l = [] := h
                       exact noEnd.nil
 | r + 1, j, l, hf, h => by
  obtain ⟨c, l0, l1, rfl, hc, h0, h1⟩ := h
  exact .cons hc.no (.app (hf j (by omega) _ h0) (rest_noEnd r (j + 1) l1 (fun i hi => hf i (by omega)) h1))
theorem tk_noEnd {V : Int → List UInt8} : ∀ (t : T), t.wr → (∀ l, (tkB V t).1 l → noEnd l ∧ l ≠ []) ∧ ∀ l, (tkB V t).2 l → noEnd l := by
 intro t
 induction t with
 | nil => exact fun h => h.elim
 | mk k n s m a ih =>
  intro hw
  have main : ∀ l, (tkB V (.mk k n s m a)).1 l → noEnd l ∧ l ≠ [] := by
   intro l h
   rcases hw with ⟨rfl, _⟩ | ⟨rfl, _⟩ | ⟨rfl, _⟩ | ⟨rfl, _, hm, hwa⟩
   ·rw [tk_var] at h
    obtain ⟨x, rfl, hx, _⟩ := h
    exact ⟨.cons (by rw [hx]; decide) .nil, by simp⟩
   ·by_cases hn : n < 0
    ·rw [tk_neg _ hn] at h
     obtain ⟨x, y, rfl, hx, _, hy, _⟩ := h
     exact ⟨.cons (by rw [hx]; decide) (.cons (by rw [hy]; decide) .nil), by simp⟩
    ·rw [tk_pos _ hn] at h
     obtain ⟨x, rfl, hx, _⟩ := h
     exact ⟨.cons (by rw [hx]; decide) .nil, by simp⟩
   ·by_cases h1 : s = nilS
    ·subst h1
     rw [tk_nil] at h
     obtain ⟨x, y, rfl, hx, hy⟩ := h
     exact ⟨.cons hx.no (.cons hy.no .nil), by simp⟩
    ·by_cases h2 : s = curS
     ·subst h2
      rw [tk_cur] at h
      obtain ⟨x, y, rfl, hx, hy⟩ := h
      exact ⟨.cons hx.no (.cons hy.no .nil), by simp⟩
     ·rw [tk_atom _ h1 h2] at h
      obtain ⟨x, rfl, hx, _⟩ := h
      exact ⟨.cons (by rw [hx]; decide) .nil, by simp⟩
   ·by_cases hp : s = dotS ∧ m = 2
    ·obtain ⟨rfl, rfl⟩ := hp
     rw [tk_pair] at h
     obtain ⟨x, y, l0, l1, rfl, hx, hy, h0, h1⟩ := h
     exact ⟨.cons hx.no (.app ((ih 0 (hwa 0 (by omega))).1 _ h0).1 (.app ((ih 1 (hwa 1 (by omega))).2 _ h1) (.cons hy.no .nil))), by simp⟩
    ·rw [tk_cmp _ hp] at h
     obtain ⟨x, y, z, l0, l1, rfl, hx, _, hy, hz, h0, h1⟩ := h
     exact ⟨.cons (by rw [hx]; decide) (.cons (by rw [hy]; decide) (.app ((ih 0 (hwa 0 hm)).1 _ h0).1 (.app (rest_noEnd (m - 1) 1 l1 (fun i hi l hl => ((ih i (hwa i (by omega))).1 l hl).1) h1) (.cons hz.no .nil)))), by simp⟩
  refine ⟨main, fun l h => ?_⟩
  by_cases hp : k = 4 ∧ s = dotS ∧ m = 2
  ·obtain ⟨rfl, rfl, rfl⟩ := hp
   have hwa : ∀ i, i < 2 → (a i).wr := by
    rcases hw with ⟨h, _⟩ | ⟨h, _⟩ | ⟨h, _⟩ | h
    ·exact absurd h (by decide)
    ·exact absurd h (by decide)
    ·exact absurd h (by decide)
    ·exact h.2.2.2
   rw [tl_pair] at h
   obtain ⟨c, l0, l1, rfl, hc, h0, h1⟩ := h
   exact .cons hc.no (.app ((ih 0 (hwa 0 (by omega))).1 _ h0).1 ((ih 1 (hwa 1 (by omega))).2 _ h1))
  ·by_cases h2 : k = 3 ∧ s = nilS
   ·obtain ⟨rfl, rfl⟩ := h2
    rw [tl_nil] at h
    subst h
    exact .nil
   ·rw [tl_else _ hp h2] at h
    obtain ⟨c, l0, rfl, hc, h0⟩ := h
    exact .cons hc.no (main _ h0).1
theorem toks_end {u : ByteArray} {p : Nat} {l : List Tk} (h : u.data.toList.drop p = [32, 46]) (hl : l.length ≤ 1000) :
 (toksN u p l = .ok (l ++ [⟨6, ba [46], p + 1, p + 2⟩]) ∧ (l ++ [(⟨6, ba [46], p + 1, p + 2⟩ : Tk)]).length ≤ 1000) ∨ (l.length = 1000 ∧ ∃ q, toksN u p l = .bad q 34) := by
 have h1 : u.data.toList.drop (p + 1) = [46] := drop_more (A := [32]) (B := [46]) h
 have h2 : u.size = p + 2 := by
  have e := congrArg List.length h
  rw [List.length_drop, len_u] at e
  have := drop_lt h (by simp)
  simp at e
  omega
 have b0 : (bn u p : Int) = 32 := bn_here h
 have b1 : (bn u (p + 1) : Int) = 46 := bn_here h1
 have e : toksN u p l = toksN u (p + 1) l := by
  rw [toksN_one (by omega), toksN_one (by omega), betN_eq (j := p) (by omega), if_pos (by rw [b0]; decide)]
 rw [e]
 have c46 : blankB 46 = false ∧ ((46 : Int) == 37) = false ∧ ((46 : Int) == 47) = false ∧ ((46 : Int) == 39) = false := by decide
 rcases toks_word (u := u) (p := p + 1) (W := [46]) (R := []) (K := 6) (l := l) h1 (by simp) (by rw [b1]; exact c46.1) (by rw [b1]; exact c46.2.1) (two_first (by rw [b1]; exact c46.2.2.1)) (by rw [b1]; exact c46.2.2.2) (by
  unfold headN
  rw [if_pos (by rw [b1]; simp; omega)]
  rfl) hl with ⟨h3, h4⟩ | h3
 ·exact .inl ⟨h3.trans (toksN_end (by show u.size ≤ p + 1 + 1; omega)), h4⟩
 ·exact .inr h3
end Go.Proofs.YtlogcealmiokkaaGreatDoor
namespace Go.Proofs.YtlogcealmiokkaaGreatDoor
open Go.RowKit
def LexS (u : ByteArray) (p : Nat) (l : List Tk) (p' : Nat) (P : List Tk → Prop) (n : Nat) : Prop := ∃ tks, P tks ∧ toksN u p l = toksN u p' (l ++ tks) ∧ tks.length ≤ n
theorem LexTo.sure {u : ByteArray} {p p' : Nat} {l l' : List Tk} (h : LexTo u p l p' l') (hl : l.length < 1000) : toksN u p l = toksN u p' l' := by
 rcases h with ⟨h, _⟩ | ⟨h, _⟩
 ·exact h
 ·omega
theorem LexS.one {u : ByteArray} {p p' : Nat} {l : List Tk} {x : Tk} {P : List Tk → Prop} (h : LexTo u p l p' (l ++ [x])) (hl : l.length < 1000) (hP : P [x]) : LexS u p l p' P 1 := ⟨[x], hP, h.sure hl, Nat.le_refl _⟩
theorem LexS.bind {u : ByteArray} {p p1 p2 : Nat} {l : List Tk} {P Q : List Tk → Prop} {n m : Nat} (h : LexS u p l p1 P n) (h2 : ∀ a, P a → a.length ≤ n → LexS u p1 (l ++ a) p2 (fun b => Q (a ++ b)) m) : LexS u p l p2 Q (n + m) := by
 obtain ⟨a, ha, h, hl⟩ := h
 obtain ⟨b, hb, h3, hl3⟩ := h2 a ha hl
 exact ⟨a ++ b, hb, by rw [h, h3, List.append_assoc], by rw [List.length_append]; omega⟩
theorem LexS.mono {u : ByteArray} {p p1 : Nat} {l : List Tk} {P Q : List Tk → Prop} {n m : Nat} (h : LexS u p l p1 P n) (hq : ∀ a, P a → Q a) (hn : n ≤ m) : LexS u p l p1 Q m := by
 obtain ⟨a, ha, h, hl⟩ := h
 exact ⟨a, hq a ha, h, by omega⟩
theorem LexS.at {u : ByteArray} {p p1 p2 : Nat} {l : List Tk} {P : List Tk → Prop} {n : Nat} (h : LexS u p l p1 P n) (e : p1 = p2) : LexS u p l p2 P n := e ▸ h
theorem LexS.mark {u : ByteArray} {p : Nat} {c : UInt8} {R : List UInt8} {l : List Tk} (h : u.data.toList.drop p = c :: R) (hm : markB c.toNat = true) (h40 : c ≠ 40) (hl : l.length < 1000) : LexS u p l (p + 1) (fun tks => ∃ x, tks = [x] ∧ Mk x c) 1 := by
 obtain ⟨x, hx, _, _, hL⟩ := tok_mark h hm h40 (Nat.le_of_lt hl)
 exact .one hL hl ⟨x, rfl, hx⟩
section
variable {V : Int → List UInt8} {u : ByteArray}
theorem lexs_int {n : Int} {p : Nat} {R : List UInt8} {l : List Tk} (h : u.data.toList.drop p = (txB V (inT n)).1 ++ R) (hR : stopR R) (hl : l.length < 900) : LexS u p l (p + (txB V (inT n)).1.length) (tkB V (inT n)).1 2 := by
 unfold inT at h ⊢
 rw [tx_int] at h ⊢
 by_cases h0 : n < 0
 ·have e : Lib.itoa n = 45 :: Lib.decDigits n.natAbs := by rw [Lib.itoa, if_pos h0]
  rw [e] at h ⊢
  have hd1 := drop_more (A := [45]) (B := Lib.decDigits n.natAbs ++ R) h
  obtain ⟨x, h1, h2, _, hb, hL⟩ := tok_minus h (digits_stop3 _ R) (l := l) (by omega)
  refine (LexS.bind (P := fun tks => tks = [x]) (n := 1) (m := 1) (.one hL (by omega) rfl) fun a' ha hla => ?_).at (p1 := p + 1 + (Lib.decDigits n.natAbs).length) (by simp only [List.length_cons]; omega)
  subst ha
  obtain ⟨y, h3, h4, h5, _, hL2⟩ := tok_int hd1 (dec_ne _) (dec_digits _) hR (l := l ++ [x]) (by simp; omega)
  exact .one hL2 (by simp; omega) ((tk_neg V h0 _ _ _ _).mpr ⟨x, y, rfl, h1, h2, h3, h4, by rw [h5, hb]; rfl⟩)
 ·have e : Lib.itoa n = Lib.decDigits n.toNat := by rw [Lib.itoa, if_neg h0]
  rw [e] at h ⊢
  obtain ⟨x, h1, h2, _, _, hL⟩ := tok_int h (dec_ne _) (dec_digits _) hR (l := l) (by omega)
  exact (LexS.one (P := (tkB V (.mk 2 n ⟨#[]⟩ 0 fun _ => .nil)).1) hL (by omega) ((tk_pos V h0 _ _ _ _).mpr ⟨x, rfl, h1, by rw [h2, e]⟩)).mono (fun _ h => h) (by omega)
theorem lexs_atom {s : ByteArray} {p : Nat} {R : List UInt8} {l : List Tk} (hq : (quoteN s).size ≠ 0) (h : u.data.toList.drop p = (txB V (atT s)).1 ++ R) (hR : stopR R) (hl : l.length < 900) : LexS u p l (p + (txB V (atT s)).1.length) (tkB V (atT s)).1 2 := by
 unfold atT at h ⊢
 by_cases h1 : s = nilS
 ·subst h1
  rw [tx_nil] at h ⊢
  have hd1 := drop_more (A := [91]) (B := 93 :: R) h
  refine LexS.bind (p1 := p + 1) (n := 1) (m := 1) (LexS.mark (R := 93 :: R) h (by decide) (by decide) (by omega)) fun a' ha hla => ?_
  obtain ⟨x, rfl, hx⟩ := ha
  refine (LexS.mark (R := R) (l := l ++ [x]) hd1 (by decide) (by decide) (by simp; omega)).mono (fun b hb => ?_) (Nat.le_refl _)
  obtain ⟨y, rfl, hy⟩ := hb
  exact (tk_nil V _ _ _ _).mpr ⟨x, y, rfl, hx, hy⟩
 ·by_cases h2 : s = curS
  ·subst h2
   rw [tx_cur] at h ⊢
   have hd1 := drop_more (A := [123]) (B := 125 :: R) h
   refine LexS.bind (p1 := p + 1) (n := 1) (m := 1) (LexS.mark (R := 125 :: R) h (by decide) (by decide) (by omega)) fun a' ha hla => ?_
   obtain ⟨x, rfl, hx⟩ := ha
   refine (LexS.mark (R := R) (l := l ++ [x]) hd1 (by decide) (by decide) (by simp; omega)).mono (fun b hb => ?_) (Nat.le_refl _)
   obtain ⟨y, rfl, hy⟩ := hb
   exact (tk_cur V _ _ _ _).mpr ⟨x, y, rfl, hx, hy⟩
  ·rw [tx_atom V h1 h2] at h ⊢
   obtain ⟨x, h3, h4, _, _, hL⟩ := tok_atom h hq hR (l := l) (by omega)
   exact (LexS.one (P := (tkB V (.mk 3 0 s 0 fun _ => .nil)).1) hL (by omega) ((tk_atom V h1 h2 _ _ _ _).mpr ⟨x, rfl, h3, h4⟩)).mono (fun _ h => h) (by omega)
end
theorem skip_blank {u : ByteArray} {p : Nat} {R : List UInt8} {l : List Tk} (h : u.data.toList.drop p = 32 :: R) (hR : R ≠ []) : toksN u p l = toksN u (p + 1) l := by
 have h1 : u.data.toList.drop (p + 1) = R := drop_more (A := [32]) (B := R) h
 have h2 := drop_lt h1 hR
 have b0 : (bn u p : Int) = 32 := bn_here h
 rw [toksN_one (by omega), toksN_one (by omega), betN_eq (j := p) (by omega), if_pos (by rw [b0]; decide)]
theorem LexS.blank {u : ByteArray} {p p' : Nat} {l : List Tk} {R : List UInt8} {P : List Tk → Prop} {n : Nat} (h : u.data.toList.drop p = 32 :: R) (hR : R ≠ []) (h2 : LexS u (p + 1) l p' P n) : LexS u p l p' P n := by
 obtain ⟨t, h3, h4, h5⟩ := h2
 exact ⟨t, h3, (skip_blank h hR).trans h4, h5⟩
theorem sent_toks {V : Int → List UInt8} {t : T} (hw : t.wr) (hlv : (lvB t).1 ≤ 65) {s : ByteArray} (hsz : s.size ≤ 4000)
 (lex : ∀ (u : ByteArray) (R : List UInt8), R = [] ∨ R = [32, 46] → u.data.toList = s.data.toList ++ R → ∃ tks, (tkB V t).1 tks ∧ toksN u 0 [] = toksN u s.size tks ∧ tks.length ≤ 900) : sentN s = .ok (rnT V t []) := by
 obtain ⟨tks, htk, h1, h2⟩ := lex s [] (.inl rfl) (by simp)
 have hlex : lexN s = .ok tks := by
  unfold lexN
  rw [if_neg (by omega), h1]
  exact toksN_end (by omega)
 obtain ⟨hne, hnn⟩ := (tk_noEnd t hw).1 _ htk
 have hend : endedN tks s = s ++ ⟨#[32, 46]⟩ := by
  unfold endedN
  cases hl : tks.getLast? with
  | none => rfl
  | some x => dsimp only; rw [if_neg (hne x (List.mem_of_getLast? hl))]
 obtain ⟨u, hu⟩ : ∃ u : ByteArray, s ++ ⟨#[32, 46]⟩ = u := ⟨_, rfl⟩
 rw [hu] at hend
 have hdu : u.data.toList = s.data.toList ++ [32, 46] := by rw [← hu]; simp
 have hus : u.size = s.size + 2 := by rw [← len_u u, hdu, List.length_append, len_u]; rfl
 obtain ⟨tk2, htk2, g1, g2⟩ := lex u [32, 46] (.inr rfl) hdu
 rcases (toks_end (u := u) (p := s.size) (l := tk2) (by rw [hdu, ← len_u s]; simp) (by omega)).symm with ⟨gl, _⟩ | ⟨g3, g4⟩
 ·omega
 obtain ⟨z, hz⟩ : ∃ z : Tk, (⟨6, ba [46], s.size + 1, s.size + 2⟩ : Tk) = z := ⟨_, rfl⟩
 have hz6 : z.k = 6 := by rw [← hz]
 rw [hz] at g3
 have hlex2 : lexN u = .ok (tk2 ++ [z]) := by unfold lexN; rw [if_neg (by omega), g1]; exact g3
 obtain ⟨_, hnn2⟩ := (tk_noEnd t hw).1 _ htk2
 have hl2 : 0 < tk2.length := List.length_pos_iff.2 hnn2
 have e0 : readN u = readC (tk2 ++ [z]) u.size ((tk2 ++ [z]).length) 0 [] := by unfold readN; rw [hlex2]
 have e1 : (tk2 ++ [z]).length = tk2.length + 1 := by simp
 have hz2 : nxT (tk2 ++ [z]) u.size tk2.length = z := nx_at (r := []) (by simp)
 rcases (term_ok (tk := tk2 ++ [z]) (sz := u.size) (V := V) t hw).1 tk2 htk2 65 0 [] 1200 [z] (by simp) (by omega) (closeT.of [] (.inl hz6)) with hr | ⟨hlv2, p, hr⟩
 ·refine sent_one hlex hend ?_
  rw [e0, e1]
  obtain ⟨f, hf⟩ : ∃ f, tk2.length = f + 1 := ⟨tk2.length - 1, by omega⟩
  unfold readC
  rw [if_pos (by omega), hr]
  dsimp only
  rw [if_pos (by rw [Nat.zero_add, hz2]; exact hz6), hf]
  unfold readC
  rw [if_neg (by rw [e1]; omega)]
  rfl
 ·omega
def V0 : Int → List UInt8 := fun _ => []
theorem int_wr {n : Int} (hn : I64 n) : (inT n).wr := .inr (.inl ⟨rfl, hn.1, hn.2⟩)
theorem lv_int (n : Int) : lvB (inT n) = (1, 1) := by simp [inT, lvB]
theorem sent_int {n : Int} (hn : I64 n) : sentN (ba (Lib.itoa n)) = .ok (inT n, []) := by
 have hl := Lib.itoa_length_le n hn.1 hn.2
 have hsz : (ba (Lib.itoa n)).size = (Lib.itoa n).length := by rw [← len_u, ba_data]
 have h := sent_toks (V := V0) (t := inT n) (int_wr hn) (by rw [lv_int]; decide) (s := ba (Lib.itoa n)) (by omega) fun u R hR hu => by
  have hst : stopR R := by
   rcases hR with rfl | rfl
   ·exact .inl rfl
   ·exact stopR_of _ (by decide)
  have e : (txB V0 (inT n)).1 = Lib.itoa n := by unfold inT; rw [tx_int]
  obtain ⟨tks, h1, h2, h3⟩ := lexs_int (V := V0) (n := n) (p := 0) (R := R) (l := []) (u := u) (by rw [e, hu, ba_data]; rfl) hst (by decide)
  exact ⟨tks, h1, by rw [h2, e, hsz]; simp, by omega⟩
 rw [h]
 unfold inT
 rw [rn_int]
 rfl
def fS : ByteArray := ⟨#[102]⟩
theorem f_plain : (quoteN fS).data.toList = [102] ∧ (quoteN fS).size ≠ 0 := by decide +kernel
theorem sent_fint {n : Int} (hn : I64 n) : sentN (ba ([102, 40, 32] ++ Lib.itoa n ++ [32, 41])) = .ok (cmpT fS [inT n], []) := by
 have hl := Lib.itoa_length_le n hn.1 hn.2
 have hsz : (ba ([102, 40, 32] ++ Lib.itoa n ++ [32, 41])).size = (Lib.itoa n).length + 5 := by rw [← len_u, ba_data]; simp
 have hnd : ¬ (fS = dotS ∧ 1 = 2) := fun h => absurd h.2 (by decide)
 have h := sent_toks (V := V0) (t := .mk 4 0 fS 1 fun _ => inT n) (.inr (.inr (.inr ⟨rfl, f_plain.2, by decide, fun _ _ => int_wr hn⟩))) (by rw [lv_cmp hnd]; simp [supTo, lv_int]) (s := ba ([102, 40, 32] ++ Lib.itoa n ++ [32, 41])) (by omega) fun u R hR hu => by
  rw [ba_data] at hu
  have h0 : u.data.toList.drop 0 = [102] ++ (40 :: 32 :: (Lib.itoa n ++ 32 :: 41 :: R)) := by rw [hu]; simp
  have h1 := drop_more h0
  have h2 := drop_more (A := [40]) h1
  have h3 := drop_more (A := [32]) h2
  have h4 := drop_more h3
  have h5 := drop_more (A := [32]) h4
  have h6 := drop_more (A := [41]) h5
  have e : (txB V0 (inT n)).1 = Lib.itoa n := by unfold inT; rw [tx_int]
  obtain ⟨x, hx1, hx2, _, hxb, hxL⟩ := tok_atom (u := u) (s := fS) (p := 0) (l := []) (by rw [f_plain.1]; exact h0) f_plain.2 (stopR_of _ (by decide)) (by decide)
  rw [f_plain.1] at hxb hxL
  obtain ⟨y, hy1, _, _, hyL⟩ := tok_open (l := []) h1 hx1 hxb (by simp)
  obtain ⟨l0, hi1, hi2, hi3⟩ := lexs_int (V := V0) (n := n) (p := 0 + [102].length + [40].length + [32].length) (R := 32 :: 41 :: R) (l := [] ++ [x] ++ [y]) (u := u) (by rw [e]; exact h3) (stopR_of _ (by decide)) (by simp)
  rw [e] at hi2
  obtain ⟨z, hz1, _, _, hzL⟩ := tok_mark (l := [] ++ [x] ++ [y] ++ l0) h5 (by decide) (by decide) (by simp; omega)
  refine ⟨x :: y :: (l0 ++ ([] ++ [z])), (tk_cmp V0 hnd _ _ _).mpr ⟨x, y, z, l0, [], rfl, hx1, hx2, hy1, hz1, hi1, rfl⟩, ?_, by simp; omega⟩
  have a1 := hxL.sure (by decide)
  have a2 := hyL.sure (by simp)
  have a3 := skip_blank (l := [] ++ [x] ++ [y]) h2 (by cases hh : Lib.itoa n <;> simp)
  have a4 := skip_blank (l := [] ++ [x] ++ [y] ++ l0) h4 (by simp)
  have a5 := hzL.sure (by simp; omega)
  rw [a1]
  refine a2.trans (a3.trans (hi2.trans (a4.trans (a5.trans ?_))))
  rw [hsz]
  simp
  congr 1
  omega
 rw [h, rn_cmp V0 hnd]
 simp only [rnRow, Nat.sub_self]
 unfold inT
 rw [rn_int]
 rfl
end Go.Proofs.YtlogcealmiokkaaGreatDoor
namespace Go.Proofs.YtlogcealmiokkaaGreatDoor
open Go.RowKit
def dB (d : Nat) : UInt8 := UInt8.ofNat (48 + d)
def aS (d : Nat) : ByteArray := ba [97, dB d]
def zS : ByteArray := ba [122]
theorem a_plain : ∀ d, d < 10 → (quoteN (aS d)).data.toList = [97, dB d] ∧ (quoteN (aS d)).size ≠ 0 ∧ aS d ≠ nilS ∧ aS d ≠ curS := by decide +kernel
theorem z_plain : (quoteN zS).data.toList = [122] ∧ (quoteN zS).size ≠ 0 ∧ zS ≠ nilS ∧ zS ≠ curS := by decide +kernel
theorem qdot : (quoteN dotS).size ≠ 0 := by decide +kernel
theorem qnil : (quoteN nilS).size ≠ 0 := by decide +kernel
def tailL : List Nat → List UInt8
 | [] => []
 | d :: l => [44, 97, dB d] ++ tailL l
def bodyL : List Nat → List UInt8
 | [] => []
 | d :: l => [97, dB d] ++ tailL l
def restW (rest : Bool) : List UInt8 := if rest then [124, 122] else []
def endT (rest : Bool) : T := if rest then atT zS else atT nilS
def lsD (rest : Bool) : List Nat → T
 | [] => endT rest
 | d :: l => twoT dotS (atT (aS d)) (lsD rest l)
theorem lv_at (s : ByteArray) : lvB (atT s) = (1, if s = nilS then 0 else 1) := by
 simp [atT, lvB]
theorem at_wr {s : ByteArray} (h : (quoteN s).size ≠ 0) : (atT s).wr := .inr (.inr (.inl ⟨rfl, h⟩))
theorem lsD_ok {rest : Bool} : ∀ {l : List Nat}, (∀ d ∈ l, d < 10) → (lsD rest l).wr ∧ (lvB (lsD rest l)).1 ≤ 2 ∧ (lvB (lsD rest l)).2 ≤ 1 ∧ ∀ ns, rnT V0 (lsD rest l) ns = (lsD rest l, ns)
 | [], _ => by
  unfold lsD endT
  cases rest
  ·simp only [Bool.false_eq_true, if_false]
   exact ⟨at_wr qnil, by rw [lv_at]; decide, by rw [lv_at]; simp, fun ns => by unfold atT; rw [rn_atom]; rfl⟩
  ·simp only [if_true]
   exact ⟨at_wr z_plain.2.1, by rw [lv_at]; decide, by rw [lv_at]; simp only; split <;> omega, fun ns => by unfold atT; rw [rn_atom]; rfl⟩
 | d :: l, hd => by
  obtain ⟨h1, h2, h3, h4⟩ := lsD_ok (rest := rest) (l := l) fun y hy => hd y (List.mem_cons_of_mem _ hy)
  have ha := a_plain d (hd d List.mem_cons_self)
  unfold lsD twoT
  have key : ∀ (P : T → Prop), P (atT (aS d)) → P (lsD rest l) → ∀ i, i < 2 → P (if i = 0 then atT (aS d) else lsD rest l) := fun P p0 p1 i hi => by
   rcases i with _ | _ | i
   ·exact p0
   ·exact p1
   ·omega
  refine ⟨.inr (.inr (.inr ⟨rfl, qdot, by omega, key T.wr (at_wr ha.2.1) h1⟩)), ?_, ?_, fun ns => ?_⟩
  ·rw [lv_pair]
   simp only [if_true, show ¬ (1 = 0) by decide, if_false, lv_at]
   omega
  ·rw [lv_pair]
   simp only [if_true, show ¬ (1 = 0) by decide, if_false, lv_at]
   omega
  ·rw [rn_pair]
   simp only [if_true, show ¬ (1 = 0) by decide, if_false]
   have e : ∀ ns, rnT V0 (atT (aS d)) ns = (atT (aS d), ns) := fun ns => by unfold atT; rw [rn_atom]; rfl
   rw [e, h4]
   rfl
theorem lexs_a {u : ByteArray} {d p : Nat} {R : List UInt8} {l : List Tk} (hd : d < 10) (h : u.data.toList.drop p = [97, dB d] ++ R) (hR : stopR R) (hl : l.length < 900) : LexS u p l (p + 2) (tkB V0 (atT (aS d))).1 2 := by
 have ha := a_plain d hd
 have e : (txB V0 (atT (aS d))).1 = [97, dB d] := by unfold atT; rw [tx_atom V0 ha.2.2.1 ha.2.2.2, ha.1]
 have := lexs_atom (V := V0) ha.2.1 (by rw [e]; exact h) hR hl
 rw [e] at this
 exact this
theorem lexs_z {u : ByteArray} {p : Nat} {R : List UInt8} {l : List Tk} (h : u.data.toList.drop p = [122] ++ R) (hR : stopR R) (hl : l.length < 900) : LexS u p l (p + 1) (tkB V0 (atT zS)).1 2 := by
 have ha := z_plain
 have e : (txB V0 (atT zS)).1 = [122] := by unfold atT; rw [tx_atom V0 ha.2.2.1 ha.2.2.2, ha.1]
 have := lexs_atom (V := V0) ha.2.1 (by rw [e]; exact h) hR hl
 rw [e] at this
 exact this
theorem stop_tail {rest : Bool} {R : List UInt8} : ∀ l : List Nat, stopR (tailL l ++ (restW rest ++ 93 :: R))
 | [] => by cases rest <;> exact stopR_of _ (by decide)
 | _ :: _ => stopR_of _ (by decide)
theorem lexs_tail {rest : Bool} {u : ByteArray} {R : List UInt8} : ∀ {l : List Nat} {p : Nat} {acc : List Tk}, (∀ d ∈ l, d < 10) → u.data.toList.drop p = tailL l ++ (restW rest ++ 93 :: R) → acc.length + 4 * l.length < 800 →
 LexS u p acc (p + (tailL l ++ restW rest).length) (tkB V0 (lsD rest l)).2 (4 * l.length + 3)
 | [], p, acc, _, h, hl => by
  cases rest
  ·refine ⟨[], ?_, by simp [tailL, restW], by simp⟩
   show (tkB V0 (atT nilS)).2 []
   unfold atT
   rw [tl_nil]
  ·have h0 : u.data.toList.drop p = 124 :: (122 :: 93 :: R) := h
   have h1 := drop_more (A := [124]) h0
   refine (LexS.bind (n := 1) (m := 2) (LexS.mark h0 (by decide) (by decide) (by simp at hl; omega)) fun a ha hla => ?_).mono (Q := (tkB V0 (lsD true [])).2) (fun _ h => h) (by simp)
   obtain ⟨x, rfl, hx⟩ := ha
   refine (lexs_z (R := 93 :: R) (l := acc ++ [x]) h1 (stopR_of _ (by decide)) (by simp at hl ⊢; omega)).mono (fun b hb => ?_) (Nat.le_refl _)
   show (tkB V0 (atT zS)).2 _
   unfold atT at hb ⊢
   rw [tl_else _ (by intro h; exact absurd h.1 (by decide)) (by intro h; exact z_plain.2.2.1 h.2)]
   exact ⟨x, b, rfl, hx, hb⟩
 | d :: l, p, acc, hd, h, hl => by
  have h0 : u.data.toList.drop p = 44 :: ([97, dB d] ++ (tailL l ++ (restW rest ++ 93 :: R))) := by rw [h]; simp [tailL]
  have h1 := drop_more (A := [44]) h0
  have h2 : u.data.toList.drop (p + 1 + 2) = tailL l ++ (restW rest ++ 93 :: R) := drop_more (A := [97, dB d]) h1
  simp only [List.length_cons] at hl
  refine ((LexS.bind (p1 := p + 1) (n := 1) (m := 2 + (4 * l.length + 3)) (LexS.mark h0 (by decide) (by decide) (by omega)) fun a ha hla => ?_).mono (Q := (tkB V0 (lsD rest (d :: l))).2) (fun _ h => h) (by simp only [List.length_cons]; omega)).at (p1 := p + 1 + 2 + (tailL l ++ restW rest).length) (by simp [tailL]; omega)
  obtain ⟨x, rfl, hx⟩ := ha
  refine LexS.bind (p1 := p + 1 + 2) (n := 2) (m := 4 * l.length + 3) (lexs_a (l := acc ++ [x]) (hd d List.mem_cons_self) h1 (stop_tail l) (by simp; omega)) fun b hb hlb => ?_
  refine (lexs_tail (l := l) (p := p + 1 + 2) (acc := acc ++ [x] ++ b) (fun y hy => hd y (List.mem_cons_of_mem _ hy)) h2 (by simp; omega)).mono (fun q hq => ?_) (Nat.le_refl _)
  show (tkB V0 (.mk 4 0 dotS 2 fun i => if i = 0 then atT (aS d) else lsD rest l)).2 _
  rw [tl_pair]
  exact ⟨x, b, q, by simp, hx, by simpa using hb, by simpa using hq⟩
def listD (rest : Bool) (l : List Nat) : List UInt8 := 91 :: (bodyL l ++ ((if l = [] then [] else restW rest) ++ [93]))
def restD (rest : Bool) (l : List Nat) : Bool := if l = [] then false else rest
theorem listD_len {rest : Bool} : ∀ l : List Nat, (bodyL l).length ≤ 3 * l.length ∧ (tailL l).length ≤ 3 * l.length
 | [] => by simp [bodyL, tailL]
 | d :: l => by
  have := listD_len (rest := rest) l
  simp only [bodyL, tailL, List.length_append, List.length_cons, List.length_nil]
  omega
theorem sent_list {rest : Bool} {l : List Nat} (hd : ∀ d ∈ l, d < 10) (hl : l.length ≤ 60) : sentN (ba (listD rest l)) = .ok (lsD (restD rest l) l, []) := by
 obtain ⟨h1, h2, h3, h4⟩ := lsD_ok (rest := restD rest l) hd
 have hlen : (ba (listD rest l)).size = (listD rest l).length := by rw [← len_u, ba_data]
 have hll : (listD rest l).length ≤ 200 := by
  have := listD_len (rest := rest) l
  have : (if l = [] then [] else restW rest).length ≤ 2 := by
   split
   ·decide
   ·cases rest <;> decide
  simp only [listD, List.length_append, List.length_cons, List.length_nil]
  omega
 have h := sent_toks (V := V0) h1 (by omega) (s := ba (listD rest l)) (by omega) fun u R hR hu => by
  rw [ba_data] at hu
  rw [hlen]
  have hst : stopR R := by
   rcases hR with rfl | rfl
   ·exact .inl rfl
   ·exact stopR_of _ (by decide)
  cases l with
  | nil =>
   have h0 : u.data.toList.drop 0 = 91 :: (93 :: R) := by rw [hu]; rfl
   have k1 := drop_more (A := [91]) h0
   obtain ⟨x, hx, _, _, hxL⟩ := tok_mark (l := []) h0 (by decide) (by decide) (by decide)
   obtain ⟨y, hy, _, _, hyL⟩ := tok_mark (l := [] ++ [x]) k1 (by decide) (by decide) (by simp)
   refine ⟨[x, y], ?_, (hxL.sure (by decide)).trans (hyL.sure (by simp)), by simp⟩
   show (tkB V0 (atT nilS)).1 _
   unfold atT
   exact (tk_nil V0 _ _ _ _).mpr ⟨x, y, rfl, hx, hy⟩
  | cons d l =>
   have e : restD rest (d :: l) = rest := if_neg (by simp)
   rw [e]
   have h0 : u.data.toList.drop 0 = 91 :: ([97, dB d] ++ (tailL l ++ (restW rest ++ 93 :: R))) := by rw [hu]; simp [listD, bodyL]
   have k1 := drop_more (A := [91]) h0
   have k2 : u.data.toList.drop (0 + 1 + 2) = tailL l ++ (restW rest ++ 93 :: R) := drop_more (A := [97, dB d]) k1
   have k3 : u.data.toList.drop (0 + 1 + 2 + (tailL l ++ restW rest).length) = 93 :: R := drop_more (A := tailL l ++ restW rest) (by rw [List.append_assoc]; exact k2)
   simp only [List.length_cons] at hl
   obtain ⟨x, hx, _, _, hxL⟩ := tok_mark (l := []) h0 (by decide) (by decide) (by decide)
   obtain ⟨l0, ha, haL, hal⟩ := lexs_a (l := [] ++ [x]) (hd d List.mem_cons_self) k1 (stop_tail l) (by simp)
   obtain ⟨l1, hb, hbL, hbl⟩ := lexs_tail (rest := rest) (l := l) (acc := [] ++ [x] ++ l0) (fun y hy => hd y (List.mem_cons_of_mem _ hy)) k2 (by simp; omega)
   obtain ⟨y, hy, _, _, hyL⟩ := tok_mark (l := [] ++ [x] ++ l0 ++ l1) k3 (by decide) (by decide) (by simp; omega)
   refine ⟨x :: (l0 ++ (l1 ++ [y])), ?_, ?_, by simp; omega⟩
   ·show (tkB V0 (.mk 4 0 dotS 2 fun i => if i = 0 then atT (aS d) else lsD rest l)).1 _
    exact (tk_pair V0 _ _ _).mpr ⟨x, y, l0, l1, rfl, hx, hy, by simpa using ha, by simpa using hb⟩
   ·refine (hxL.sure (by decide)).trans (haL.trans (hbL.trans ((hyL.sure (by simp; omega)).trans ?_)))
    simp [listD, bodyL]
    congr 1
    omega
 rw [h, h4]
end Go.Proofs.YtlogcealmiokkaaGreatDoor
