/- Plain facts on texts that are joined: a text with a blank behind it; two texts that are the same from two places on. Plain lemmas: the library's searches in the words of the plain lexer. Plain facts on quoting: which names stand without quotes; what a quoted name is read as. Terms that can be written, plain. Instructions read back, plain: what both decoders read; a clause's own instructions are read back as the clause with its variables numbered. -/
import Derived.Test.YtibcpdmeigdgpaaGreatDoorKGb
import Derived.Lib.IndexMore
import Derived.Lib.IndexLaws
import Derived.Lib.Strings
import Derived.Test.YtibcpdmeigdgpaaGreatDoorKHb
import Derived.Test.YtibcpdmeigdgpaaGreatDoorKHd
namespace Go.Proofs.YtibcpdmeigdgpaaGreatDoor
structure Alike (u u' : ByteArray) (o o' n : Nat) : Prop where
 su : u.size = o + n
 su' : u'.size = o' + n
 eq : ∀ i, bu u (o + i) = bu u' (o' + i)
theorem Alike.bn {u u' : ByteArray} {o o' n : Nat} (h : Alike u u' o o' n) (i : Nat) : bn u (o + i) = bn u' (o' + i) := by
 rw [bn_bu, bn_bu, h.eq]
theorem Alike.two {u u' : ByteArray} {o o' n : Nat} (h : Alike u u' o o' n) (i : Nat) (a b : Int) : twoB u (o + i) a b = twoB u' (o' + i) a b := by
 have h1 := h.su
 have h2 := h.su'
 have h3 := h.bn (i + 1)
 rw [← Nat.add_assoc, ← Nat.add_assoc] at h3
 have h4 : decide (o + i + 1 < u.size) = decide (o' + i + 1 < u'.size) := decide_eq_decide.2 (by omega)
 unfold twoB
 rw [h.bn i, h3, h4]
theorem Alike.runF {u u' : ByteArray} {o o' n : Nat} (h : Alike u u' o o' n) : ∀ (f : Nat) (k : Int) (j : Nat), ∃ d, runF f k u (o + j) = o + d ∧ Go.Proofs.YtibcpdmeigdgpaaGreatDoor.runF f k u' (o' + j) = o' + d ∧ j ≤ d
 | 0, _, j => ⟨j, rfl, rfl, Nat.le_refl _⟩
 | f + 1, k, j => by
  unfold Go.Proofs.YtibcpdmeigdgpaaGreatDoor.runF
  rw [h.bn j]
  split
  ·obtain ⟨d, h1, h2, h3⟩ := h.runF f k (j + 1)
   exact ⟨d, h1, h2, by omega⟩
  ·exact ⟨j, rfl, rfl, Nat.le_refl _⟩
theorem Alike.runN {u u' : ByteArray} {o o' n : Nat} (h : Alike u u' o o' n) (k : Int) (j : Nat) : ∃ d, runN k u (o + j) = o + d ∧ Go.Proofs.YtibcpdmeigdgpaaGreatDoor.runN k u' (o' + j) = o' + d ∧ j ≤ d := by
 have h1 := h.su
 have h2 := h.su'
 have e1 : u.size - (o + j) = n - j := by omega
 have e2 : u'.size - (o' + j) = n - j := by omega
 unfold Go.Proofs.YtibcpdmeigdgpaaGreatDoor.runN
 rw [e1, e2]
 exact h.runF _ k j
theorem Alike.lineF {u u' : ByteArray} {o o' n : Nat} (h : Alike u u' o o' n) : ∀ (f : Nat) (j : Nat), ∃ d, lineF f u (o + j) = o + d ∧ Go.Proofs.YtibcpdmeigdgpaaGreatDoor.lineF f u' (o' + j) = o' + d ∧ j ≤ d
 | 0, j => ⟨j, rfl, rfl, Nat.le_refl _⟩
 | f + 1, j => by
  unfold Go.Proofs.YtibcpdmeigdgpaaGreatDoor.lineF
  rw [h.bn j]
  split
  ·obtain ⟨d, h1, h2, h3⟩ := h.lineF f (j + 1)
   exact ⟨d, h1, h2, by omega⟩
  ·exact ⟨j, rfl, rfl, Nat.le_refl _⟩
theorem Alike.lineN {u u' : ByteArray} {o o' n : Nat} (h : Alike u u' o o' n) (j : Nat) : ∃ d, lineN u (o + j) = o + d ∧ Go.Proofs.YtibcpdmeigdgpaaGreatDoor.lineN u' (o' + j) = o' + d ∧ j ≤ d := by
 have h1 := h.su
 have h2 := h.su'
 have e1 : u.size - (o + j) = n - j := by omega
 have e2 : u'.size - (o' + j) = n - j := by omega
 unfold Go.Proofs.YtibcpdmeigdgpaaGreatDoor.lineN
 rw [e1, e2]
 exact h.lineF _ j
theorem Alike.endF {u u' : ByteArray} {o o' n : Nat} (h : Alike u u' o o' n) : ∀ (f : Nat) (j : Nat), ∃ d, endF f u (o + j) = o + d ∧ Go.Proofs.YtibcpdmeigdgpaaGreatDoor.endF f u' (o' + j) = o' + d ∧ j ≤ d
 | 0, j => ⟨j, rfl, rfl, Nat.le_refl _⟩
 | f + 1, j => by
  unfold Go.Proofs.YtibcpdmeigdgpaaGreatDoor.endF
  rw [h.two j]
  split
  ·exact ⟨j, rfl, rfl, Nat.le_refl _⟩
  ·obtain ⟨d, h1, h2, h3⟩ := h.endF f (j + 1)
   exact ⟨d, h1, h2, by omega⟩
theorem Alike.endN {u u' : ByteArray} {o o' n : Nat} (h : Alike u u' o o' n) (j : Nat) : ∃ d, endN u (o + j) = o + d ∧ Go.Proofs.YtibcpdmeigdgpaaGreatDoor.endN u' (o' + j) = o' + d ∧ j ≤ d := by
 have h1 := h.su
 have h2 := h.su'
 have e1 : u.size - (o + j) = n - j := by omega
 have e2 : u'.size - (o' + j) = n - j := by omega
 unfold Go.Proofs.YtibcpdmeigdgpaaGreatDoor.endN
 rw [e1, e2]
 exact h.endF _ j
theorem Alike.betF {u u' : ByteArray} {o o' n : Nat} (h : Alike u u' o o' n) : ∀ (f : Nat) (j : Nat), ∃ d b, betF f u (o + j) = (o + d, b) ∧ Go.Proofs.YtibcpdmeigdgpaaGreatDoor.betF f u' (o' + j) = (o' + d, b) ∧ j ≤ d
 | 0, j => ⟨j, true, rfl, rfl, Nat.le_refl _⟩
 | f + 1, j => by
  have h1 := h.su
  have h2 := h.su'
  unfold Go.Proofs.YtibcpdmeigdgpaaGreatDoor.betF
  rw [h.bn j, h.two j]
  by_cases hj : j < n
  ·rw [if_pos (by omega : o + j < u.size), if_pos (by omega : o' + j < u'.size)]
   split
   ·obtain ⟨d, b, h3, h4, h5⟩ := h.betF f (j + 1)
    exact ⟨d, b, h3, h4, by omega⟩
   ·split
    ·obtain ⟨c, h3, h4, h5⟩ := h.lineN j
     rw [h3, h4]
     obtain ⟨d, b, h6, h7, h8⟩ := h.betF f c
     exact ⟨d, b, h6, h7, by omega⟩
    ·split
     ·obtain ⟨c, h3, h4, h5⟩ := h.endN (j + 2)
      rw [← Nat.add_assoc] at h3 h4
      rw [h3, h4]
      by_cases hc : c < n
      ·rw [if_pos (by omega : o + c < u.size), if_pos (by omega : o' + c < u'.size)]
       obtain ⟨d, b, h6, h7, h8⟩ := h.betF f (c + 2)
       exact ⟨d, b, h6, h7, by omega⟩
      ·rw [if_neg (by omega : ¬ o + c < u.size), if_neg (by omega : ¬ o' + c < u'.size)]
       exact ⟨j, false, rfl, rfl, Nat.le_refl _⟩
     ·exact ⟨j, true, rfl, rfl, Nat.le_refl _⟩
  ·rw [if_neg (by omega : ¬ o + j < u.size), if_neg (by omega : ¬ o' + j < u'.size)]
   exact ⟨j, true, rfl, rfl, Nat.le_refl _⟩
theorem Alike.betN {u u' : ByteArray} {o o' n : Nat} (h : Alike u u' o o' n) (j : Nat) : ∃ d b, betN u (o + j) = (o + d, b) ∧ Go.Proofs.YtibcpdmeigdgpaaGreatDoor.betN u' (o' + j) = (o' + d, b) ∧ j ≤ d := by
 have h1 := h.su
 have h2 := h.su'
 have e1 : u.size - (o + j) = n - j := by omega
 have e2 : u'.size - (o' + j) = n - j := by omega
 unfold Go.Proofs.YtibcpdmeigdgpaaGreatDoor.betN
 rw [e1, e2]
 exact h.betF _ j
theorem Alike.quoF {u u' : ByteArray} {o o' n : Nat} (h : Alike u u' o o' n) : ∀ (f i k : Nat) (b : List UInt8), (∃ t p, quoF f u (o + i) (o + k) b = .ok t (o + p) ∧ Go.Proofs.YtibcpdmeigdgpaaGreatDoor.quoF f u' (o' + i) (o' + k) b = .ok t (o' + p)) ∨
 ∃ p e, Go.Proofs.YtibcpdmeigdgpaaGreatDoor.quoF f u (o + i) (o + k) b = .bad (o + p) e ∧ Go.Proofs.YtibcpdmeigdgpaaGreatDoor.quoF f u' (o' + i) (o' + k) b = .bad (o' + p) e
 | 0, i, _, _ => .inr ⟨i, 31, rfl, rfl⟩
 | f + 1, i, k, b => by
  have h1 := h.su
  have h2 := h.su'
  have e1 := h.bn (k + 1)
  have e2 := h.eq (k + 1)
  rw [← Nat.add_assoc, ← Nat.add_assoc] at e1 e2
  unfold Go.Proofs.YtibcpdmeigdgpaaGreatDoor.quoF
  rw [h.bn k, h.two k, e1, e2, h.eq k]
  by_cases hk : k < n
  ·rw [if_pos (by omega : o + k < u.size), if_pos (by omega : o' + k < u'.size)]
   split
   ·exact h.quoF f i (k + 2) _
   ·split
    ·exact .inl ⟨b, k + 1, rfl, rfl⟩
    ·split
     ·by_cases hk1 : k + 1 = n
      ·rw [if_pos (by omega : o + k + 1 = u.size), if_pos (by omega : o' + k + 1 = u'.size)]
       exact .inr ⟨i, 31, rfl, rfl⟩
      ·rw [if_neg (by omega : ¬ o + k + 1 = u.size), if_neg (by omega : ¬ o' + k + 1 = u'.size)]
       split
       ·exact h.quoF f i (k + 2) _
       ·split
        ·exact h.quoF f i (k + 2) _
        ·split
         ·exact h.quoF f i (k + 2) _
         ·exact .inr ⟨k, 32, rfl, rfl⟩
     ·split
      ·exact .inr ⟨k, 30, rfl, rfl⟩
      ·exact h.quoF f i (k + 1) _
  ·rw [if_neg (by omega : ¬ o + k < u.size), if_neg (by omega : ¬ o' + k < u'.size)]
   exact .inr ⟨i, 31, rfl, rfl⟩
theorem Alike.quoN {u u' : ByteArray} {o o' n : Nat} (h : Alike u u' o o' n) (i k : Nat) (b : List UInt8) : (∃ t p, quoN u (o + i) (o + k) b = .ok t (o + p) ∧ Go.Proofs.YtibcpdmeigdgpaaGreatDoor.quoN u' (o' + i) (o' + k) b = .ok t (o' + p)) ∨
 ∃ p e, Go.Proofs.YtibcpdmeigdgpaaGreatDoor.quoN u (o + i) (o + k) b = .bad (o + p) e ∧ Go.Proofs.YtibcpdmeigdgpaaGreatDoor.quoN u' (o' + i) (o' + k) b = .bad (o' + p) e := by
 have h1 := h.su
 have h2 := h.su'
 have e1 : u.size - (o + k) = n - k := by omega
 have e2 : u'.size - (o' + k) = n - k := by omega
 unfold Go.Proofs.YtibcpdmeigdgpaaGreatDoor.quoN
 rw [e1, e2]
 exact h.quoF _ i k b
def HP (o o' : Nat) (q : Bool) (r r' : Option (Int × Nat)) : Prop := (r = none ∧ r' = none) ∨ ∃ K j j', r = some (K, j) ∧ r' = some (K, j') ∧ (q = false → ∃ d, j = o + d ∧ j' = o' + d)
theorem HP.ite {o o' : Nat} {q : Bool} {c : Prop} [Decidable c] {a b a' b' : Option (Int × Nat)} (h1 : c → HP o o' q a a') (h2 : ¬c → HP o o' q b b') : HP o o' q (if c then a else b) (if c then a' else b') := by
 by_cases h : c
 ·rw [if_pos h, if_pos h]; exact h1 h
 ·rw [if_neg h, if_neg h]; exact h2 h
theorem HP.mk {o o' : Nat} {q : Bool} (K : Int) (d : Nat) : HP o o' q (some (K, o + d)) (some (K, o' + d)) := .inr ⟨K, _, _, rfl, rfl, fun _ => ⟨d, rfl, rfl⟩⟩
theorem Alike.headN {u u' : ByteArray} {o o' n : Nat} (h : Alike u u' o o' n) (f : Nat) (q q' : Option Tk) (ho : opens q (o + f) = opens q' (o' + f)) :
 HP o o' ((Go.Proofs.YtibcpdmeigdgpaaGreatDoor.bn u' (o' + f) : Int) == 39) (headN u (o + f) q) (Go.Proofs.YtibcpdmeigdgpaaGreatDoor.headN u' (o' + f) q') := by
 have h1 := h.su
 have h2 := h.su'
 have e1 := h.bn (f + 1)
 rw [← Nat.add_assoc, ← Nat.add_assoc] at e1
 have e3 : decide (o + f + 1 = u.size) = decide (o' + f + 1 = u'.size) := decide_eq_decide.2 (by omega)
 obtain ⟨d1, a1, a2, _⟩ := h.runN 1 f
 obtain ⟨d2, a3, a4, _⟩ := h.runN 2 f
 obtain ⟨d3, a5, a6, _⟩ := h.runN 3 f
 unfold Go.Proofs.YtibcpdmeigdgpaaGreatDoor.headN
 rw [h.bn f, e1, e3, ho, a1, a2, a3, a4, a5, a6]
 refine HP.ite (fun _ => HP.mk 6 (f + 1)) fun _ => HP.ite (fun _ => HP.mk 1 d1) fun _ => HP.ite (fun _ => HP.mk 2 d1) fun _ => HP.ite (fun _ => HP.mk 3 d2) fun _ => HP.ite (fun _ => HP.mk 1 d3) fun _ => HP.ite (fun _ => HP.mk 1 (f + 1)) fun _ => HP.ite (fun h39 => ?_) fun _ => HP.ite (fun _ => HP.mk _ (f + 1)) fun _ => .inl ⟨rfl, rfl⟩
 exact .inr ⟨1, _, _, rfl, rfl, fun hh => by rw [h39] at hh; cases hh⟩
def Tk.sh (o o' : Nat) (x : Tk) : Tk := ⟨x.k, x.t, x.a - o' + o, x.b - o' + o⟩
theorem bu_get {s : ByteArray} {i : Nat} (h : i < s.data.size) : s.data[i] = bu s i := by
 rw [bu, List.getD_eq_getElem?_getD, Array.getElem?_toList, Array.getElem?_eq_getElem h]
 rfl
theorem Alike.extract {u u' : ByteArray} {o o' n : Nat} (h : Alike u u' o o' n) (f d : Nat) : u.extract (o + f) (o + d) = u'.extract (o' + f) (o' + d) := by
 have h1 : u.data.size = o + n := h.su
 have h2 : u'.data.size = o' + n := h.su'
 apply ByteArray.ext
 rw [ByteArray.data_extract, ByteArray.data_extract]
 apply Array.ext
 ·rw [Array.size_extract, Array.size_extract, h1, h2]
  omega
 ·intro i a b
  rw [Array.size_extract, h1] at a
  rw [Array.size_extract, h2] at b
  rw [Array.getElem_extract, Array.getElem_extract, bu_get, bu_get, Nat.add_assoc, Nat.add_assoc]
  exact h.eq _
theorem Alike.one {u u' : ByteArray} {o o' n : Nat} (h : Alike u u' o o' n) (f : Nat) (l l' : List Tk) (ho : opens l.getLast? (o + f) = opens l'.getLast? (o' + f)) {y : Tk} (hy : oneN u' (o' + f) l' = .ok y) (hl : l.length ≠ 1000) :
 oneN u (o + f) l = .ok (y.sh o o') ∧ o' + f = y.a ∧ ∃ d, y.b = o' + d := by
 unfold oneN at hy ⊢
 rcases h.headN f _ _ ho with ⟨_, h2⟩ | ⟨K, j, j', h2, h3, h4⟩
 ·rw [h2] at hy; cases hy
 ·rw [h3] at hy
  rw [h2]
  dsimp only at hy ⊢
  rw [if_neg hl]
  split at hy
  ·cases hy
  ·rw [h.bn f]
   split at hy
   ·rename_i h39
    rw [if_pos h39]
    rcases h.quoN f (f + 1) [] with ⟨t, p, h5, h6⟩ | ⟨p, e, h5, h6⟩
    ·rw [← Nat.add_assoc] at h5 h6
     rw [h6] at hy
     rw [h5]
     injection hy with hy
     subst hy
     refine ⟨?_, rfl, p, rfl⟩
     simp only [Tk.sh, Nat.add_sub_cancel_left]
     rw [Nat.add_comm f o, Nat.add_comm p o]
    ·rw [← Nat.add_assoc] at h6
     rw [h6] at hy
     cases hy
   ·rename_i h39
    rw [if_neg h39]
    injection hy with hy
    subst hy
    obtain ⟨d, rfl, rfl⟩ := h4 (by simpa using h39)
    refine ⟨?_, rfl, d, rfl⟩
    simp only [Tk.sh, Nat.add_sub_cancel_left]
    rw [h.extract f d, Nat.add_comm f o, Nat.add_comm d o]
structure Ahead0 (s u : ByteArray) : Prop where
 lt : s.size < u.size
 eq : ∀ i, i < s.size → bu u i = bu s i
 blk : blankB (bn u s.size) = true
structure Ahead (s u : ByteArray) : Prop extends Ahead0 s u where
 line : betN u (lineN u s.size) = betN u s.size
theorem Ahead0.bn {s u : ByteArray} (h : Ahead0 s u) {i : Nat} (hi : i < s.size) : bn u i = bn s i := by rw [bn_bu, bn_bu, h.eq i hi]
theorem blank_cases {c : Int} (h : blankB c = true) : c = 32 ∨ c = 9 ∨ c = 10 ∨ c = 13 := by
 simp only [blankB, Bool.or_eq_true, beq_iff_eq] at h
 omega
theorem kind_blank {k c : Int} (h : blankB c = true) : kindB k c = false := by
 have hk : ∀ c : Int, (c = 32 ∨ c = 9 ∨ c = 10 ∨ c = 13) → namedB c = false ∧ digitB c = false ∧ signB c = false := by
  rintro c (rfl | rfl | rfl | rfl) <;> exact ⟨by decide, by decide, by decide⟩
 obtain ⟨h1, h2, h3⟩ := hk c (blank_cases h)
 simp [kindB, h1, h2, h3]
theorem Ahead0.two {s u : ByteArray} (h : Ahead0 s u) {i : Nat} (hi : i < s.size) {a b : Int} (hb : blankB b = false) : twoB u i a b = twoB s i a b := by
 have hlt := h.lt
 unfold twoB
 rw [h.bn hi]
 by_cases h1 : i + 1 < s.size
 ·rw [h.bn h1, decide_eq_true h1, decide_eq_true (by omega : i + 1 < u.size)]
 ·have h2 : i + 1 = s.size := by omega
  rw [decide_eq_false h1, h2]
  have h3 : (((Go.Proofs.YtibcpdmeigdgpaaGreatDoor.bn u s.size : Nat) : Int) == b) = false := by
   apply Bool.eq_false_iff.2
   intro h4
   have h5 : ((Go.Proofs.YtibcpdmeigdgpaaGreatDoor.bn u s.size : Nat) : Int) = b := by simpa using h4
   have := h.blk
   rw [h5, hb] at this
   cases this
  rw [h3]
  simp
theorem Ahead0.runN {s u : ByteArray} (h : Ahead0 s u) (k : Int) : ∀ (m j : Nat), s.size - j ≤ m → j ≤ s.size → runN k u j = Go.Proofs.YtibcpdmeigdgpaaGreatDoor.runN k s j
 | m, j, hm, hj => by
  have hlt := h.lt
  by_cases hjs : j < s.size
  ·cases hk : kindB k (Go.Proofs.YtibcpdmeigdgpaaGreatDoor.bn s j)
   ·rw [runN_stop hk, runN_stop (by rw [h.bn hjs]; exact hk)]
   ·rw [runN_step hjs hk, runN_step (by omega) (by rw [h.bn hjs]; exact hk)]
    match m, hm with
    | 0, hm => omega
    | m + 1, hm => exact h.runN k m (j + 1) (by omega) (by omega)
  ·have : j = s.size := by omega
   subst this
   rw [runN_end (Nat.le_refl _), runN_stop (kind_blank h.blk)]
theorem Ahead0.lineN {s u : ByteArray} (h : Ahead0 s u) : ∀ (m j : Nat), s.size - j ≤ m → j ≤ s.size → (lineN s j < s.size → lineN u j = Go.Proofs.YtibcpdmeigdgpaaGreatDoor.lineN s j) ∧ (Go.Proofs.YtibcpdmeigdgpaaGreatDoor.lineN s j = s.size → Go.Proofs.YtibcpdmeigdgpaaGreatDoor.lineN u j = Go.Proofs.YtibcpdmeigdgpaaGreatDoor.lineN u s.size)
 | m, j, hm, hj => by
  have hlt := h.lt
  by_cases hjs : j < s.size
  ·cases hk : ((Go.Proofs.YtibcpdmeigdgpaaGreatDoor.bn s j : Int) != 10)
   ·rw [lineN_stop hk, lineN_stop (by rw [h.bn hjs]; exact hk)]
    exact ⟨fun _ => rfl, fun hh => by omega⟩
   ·rw [lineN_step hjs hk, lineN_step (s := u) (j := j) (by omega) (by rw [h.bn hjs]; exact hk)]
    match m, hm with
    | 0, hm => omega
    | m + 1, hm => exact h.lineN m (j + 1) (by omega) (by omega)
  ·have : j = s.size := by omega
   subst this
   refine ⟨fun hh => ?_, fun _ => rfl⟩
   rw [lineN_end (Nat.le_refl _)] at hh
   omega
theorem Ahead0.endN {s u : ByteArray} (h : Ahead0 s u) : ∀ (m j : Nat), s.size - j ≤ m → endN s j < s.size → endN u j = Go.Proofs.YtibcpdmeigdgpaaGreatDoor.endN s j
 | m, j, hm, he => by
  have hlt := h.lt
  by_cases hjs : j < s.size
  ·cases hk : twoB s j 42 47
   ·rw [endN_step hjs hk] at he ⊢
    rw [endN_step (by omega) (by rw [h.two hjs (by decide)]; exact hk)]
    match m, hm with
    | 0, hm => omega
    | m + 1, hm => exact h.endN m (j + 1) (by omega) he
   ·rw [endN_stop hk, endN_stop (by rw [h.two hjs (by decide)]; exact hk)]
  ·rw [endN_end (by omega)] at he
   omega
theorem Ahead.betN {s u : ByteArray} (h : Ahead s u) : ∀ (m j f : Nat), s.size - j ≤ m → j ≤ s.size → betN s j = (f, true) → (f < s.size → betN u j = (f, true)) ∧ (f = s.size → Go.Proofs.YtibcpdmeigdgpaaGreatDoor.betN u j = Go.Proofs.YtibcpdmeigdgpaaGreatDoor.betN u s.size)
 | m, j, f, hm, hj, hb => by
  have hlt := h.lt
  by_cases hjs : j < s.size
  ·rw [betN_eq hjs] at hb
   rw [betN_eq (s := u) (j := j) (by omega), h.bn hjs, h.two hjs (by decide)]
   split at hb
   ·rename_i h1
    rw [if_pos h1]
    match m, hm with
    | 0, hm => omega
    | m + 1, hm => exact h.betN m (j + 1) f (by omega) (by omega) hb
   ·rename_i h1
    rw [if_neg h1]
    split at hb
    ·rename_i h2
     rw [if_pos h2]
     have hg := line_gt hjs h2
     have hle := lineN_le (s := s) (j := j) hj
     have hl := h.lineN _ j (Nat.le_refl _) hj
     by_cases hls : Go.Proofs.YtibcpdmeigdgpaaGreatDoor.lineN s j < s.size
     ·rw [hl.1 hls]
      match m, hm with
      | 0, hm => omega
      | m + 1, hm => exact h.betN m _ f (by omega) (by omega) hb
     ·have hls' : Go.Proofs.YtibcpdmeigdgpaaGreatDoor.lineN s j = s.size := by omega
      rw [hls', betN_end (Nat.le_refl _)] at hb
      injection hb with hb _
      rw [hl.2 hls']
      exact ⟨fun hh => by omega, fun _ => h.line⟩
    ·rename_i h2
     rw [if_neg h2]
     split at hb
     ·rename_i h3
      rw [if_pos h3]
      split at hb
      ·rename_i h4
       have h5 := h.endN _ (j + 2) (Nat.le_refl _) h4
       have h6 := endN_ge s (j + 2)
       have h7 := twoB_lt (endN_two h4)
       rw [h5, if_pos (by omega)]
       match m, hm with
       | 0, hm => omega
       | m + 1, hm => exact h.betN m _ f (by omega) (by omega) hb
      ·injection hb with _ hb; cases hb
     ·rename_i h3
      rw [if_neg h3]
      injection hb with hb _
      subst hb
      exact ⟨fun _ => rfl, fun hh => by omega⟩
  ·have hjj : j = s.size := by omega
   subst hjj
   rw [betN_end (Nat.le_refl _)] at hb
   injection hb with hb _
   exact ⟨fun hh => by omega, fun _ => rfl⟩
theorem Ahead0.quoN {s u : ByteArray} (h : Ahead0 s u) (i : Nat) (t : List UInt8) (p : Nat) : ∀ (m k : Nat) (b : List UInt8), s.size - k ≤ m → quoN s i k b = .ok t p → quoN u i k b = .ok t p
 | m, k, b, hm, hq => by
  have hlt := h.lt
  by_cases hks : k < s.size
  ·rw [quoN_eq hks] at hq
   rw [quoN_eq (s := u) (by omega), h.bn hks, h.two hks (by decide), h.eq k hks]
   split at hq
   ·rename_i h1
    rw [if_pos h1]
    match m, hm with
    | 0, hm => omega
    | m + 1, hm => exact h.quoN i t p m _ _ (by omega) hq
   ·rename_i h1
    rw [if_neg h1]
    split at hq
    ·rename_i h2
     rw [if_pos h2]
     exact hq
    ·rename_i h2
     rw [if_neg h2]
     split at hq
     ·rename_i h3
      rw [if_pos h3]
      split at hq
      ·cases hq
      ·rename_i h4
       have h5 : k + 1 < s.size := by omega
       rw [if_neg (by omega), h.bn h5, h.eq _ h5]
       split at hq
       ·rename_i h6
        rw [if_pos h6]
        match m, hm with
        | 0, hm => omega
        | m + 1, hm => exact h.quoN i t p m _ _ (by omega) hq
       ·rename_i h6
        rw [if_neg h6]
        split at hq
        ·rename_i h7
         rw [if_pos h7]
         match m, hm with
         | 0, hm => omega
         | m + 1, hm => exact h.quoN i t p m _ _ (by omega) hq
        ·rename_i h7
         rw [if_neg h7]
         split at hq
         ·rename_i h8
          rw [if_pos h8]
          match m, hm with
          | 0, hm => omega
          | m + 1, hm => exact h.quoN i t p m _ _ (by omega) hq
         ·cases hq
     ·rename_i h3
      rw [if_neg h3]
      split at hq
      ·cases hq
      ·rename_i h4
       rw [if_neg h4]
       match m, hm with
       | 0, hm => omega
       | m + 1, hm => exact h.quoN i t p m _ _ (by omega) hq
  ·rw [quoN_end (by omega)] at hq
   cases hq
theorem Ahead0.headN {s u : ByteArray} (h : Ahead0 s u) {f : Nat} (hf : f < s.size) (q : Option Tk) : headN u f q = Go.Proofs.YtibcpdmeigdgpaaGreatDoor.headN s f q := by
 have hlt := h.lt
 have e : (decide (f + 1 = u.size) || blankB (Go.Proofs.YtibcpdmeigdgpaaGreatDoor.bn u (f + 1)) || (Go.Proofs.YtibcpdmeigdgpaaGreatDoor.bn u (f + 1) : Int) == 37) = (decide (f + 1 = s.size) || blankB (Go.Proofs.YtibcpdmeigdgpaaGreatDoor.bn s (f + 1)) || (Go.Proofs.YtibcpdmeigdgpaaGreatDoor.bn s (f + 1) : Int) == 37) := by
  by_cases h1 : f + 1 = s.size
  ·rw [decide_eq_true h1, h1, h.blk]
   simp
  ·rw [h.bn (by omega : f + 1 < s.size), decide_eq_false h1, decide_eq_false (by omega : ¬ f + 1 = u.size)]
 unfold Go.Proofs.YtibcpdmeigdgpaaGreatDoor.headN
 rw [e, h.bn hf, h.runN 1 _ f (Nat.le_refl _) (by omega), h.runN 2 _ f (Nat.le_refl _) (by omega), h.runN 3 _ f (Nat.le_refl _) (by omega)]
theorem Ahead0.extract {s u : ByteArray} (h : Ahead0 s u) (f d : Nat) (hd : d ≤ s.size) : u.extract f d = s.extract f d := by
 have h1 : s.data.size < u.data.size := h.lt
 have hd' : d ≤ s.data.size := hd
 apply ByteArray.ext
 rw [ByteArray.data_extract, ByteArray.data_extract]
 apply Array.ext
 ·rw [Array.size_extract, Array.size_extract]
  omega
 ·intro i a b
  rw [Array.size_extract] at a b
  rw [Array.getElem_extract, Array.getElem_extract, bu_get, bu_get]
  exact h.eq _ (by show f + i < s.data.size; omega)
theorem Ahead0.one {s u : ByteArray} (h : Ahead0 s u) {f : Nat} (hf : f < s.size) {l : List Tk} {x : Tk} (hx : oneN s f l = .ok x) : oneN u f l = .ok x := by
 unfold oneN at hx ⊢
 rw [h.headN hf]
 cases hh : Go.Proofs.YtibcpdmeigdgpaaGreatDoor.headN s f l.getLast? with
 | none => rw [hh] at hx; cases hx
 | some q =>
  obtain ⟨K, j⟩ := q
  rw [hh] at hx
  dsimp only at hx ⊢
  split at hx
  ·cases hx
  ·rename_i hl
   rw [if_neg hl, h.bn hf]
   split at hx
   ·rename_i h39
    rw [if_pos h39]
    cases hq : Go.Proofs.YtibcpdmeigdgpaaGreatDoor.quoN s f (f + 1) [] with
    | ok t p =>
     rw [hq] at hx
     rw [h.quoN f t p _ _ _ (Nat.le_refl _) hq]
     exact hx
    | bad p e => rw [hq] at hx; cases hx
   ·rename_i h39
    rw [if_neg h39]
    have := headN_ok hh hf (by simpa using h39)
    rw [h.extract f j this.2.2.2]
    exact hx
end Go.Proofs.YtibcpdmeigdgpaaGreatDoor
namespace Go.Proofs.YtibcpdmeigdgpaaGreatDoor
theorem list_len (s : ByteArray) : s.data.toList.length = s.size := by rw [Array.length_toList]; rfl
theorem list_extract (s : ByteArray) (a b : Nat) : (s.extract a b).data.toList = (s.data.toList.drop a).take (b - a) := by
 rw [ByteArray.data_extract, Array.toList_extract]
theorem list_rest (s : ByteArray) (a : Nat) : (s.extract a s.size).data.toList = s.data.toList.drop a := by
 rw [list_extract]
 apply List.take_of_length_le
 rw [List.length_drop, list_len]
 omega
theorem list_at (s : ByteArray) {i : Nat} (h : i < s.size) : s.data.toList[i]? = some (bu s i) := by
 unfold bu
 rw [List.getD_eq_getElem?_getD, List.getElem?_eq_getElem (by rw [list_len]; exact h)]
 rfl
theorem list_no (s : ByteArray) {i : Nat} (h : s.size ≤ i) : s.data.toList[i]? = none := List.getElem?_eq_none (by rw [list_len]; exact h)
theorem bn_extract (s : ByteArray) (a b : Nat) {i : Nat} (h : a + i < b) : bn (s.extract a b) i = bn s (a + i) := by
 unfold bn
 rw [list_extract, List.getD_eq_getElem?_getD, List.getD_eq_getElem?_getD, List.getElem?_take, if_pos (by omega), List.getElem?_drop]
theorem pre_two (s : ByteArray) (p : Nat) (a b : UInt8) : List.isPrefixOf [a, b] (s.data.toList.drop p) = twoB s p a.toNat b.toNat := by
 have h0 := List.getElem?_drop (xs := s.data.toList) (i := p) (j := 0)
 have h1 := List.getElem?_drop (xs := s.data.toList) (i := p) (j := 1)
 unfold twoB
 by_cases hp : p + 1 < s.size
 ·rw [list_at s (by omega)] at h0
  rw [list_at s hp] at h1
  match hd : s.data.toList.drop p, h0, h1 with
  | x :: y :: l, h0, h1 =>
   simp at h0 h1
   subst h0; subst h1
   have e : ∀ (u v : UInt8), (u == v) = (((v.toNat : Nat) : Int) == ((u.toNat : Nat) : Int)) := fun u v => by
    rw [Bool.eq_iff_iff, beq_iff_eq, beq_iff_eq]
    exact ⟨fun h => by rw [h], fun h => UInt8.toNat_inj.1 (by omega)⟩
   simp only [List.isPrefixOf, decide_eq_true hp, Bool.true_and, Bool.and_true, bn_bu]
   rw [e, e]
 ·rw [decide_eq_false hp]
  rw [list_no s (by omega)] at h1
  match hd : s.data.toList.drop p, h1 with
  | [], _ => rfl
  | [x], _ => simp [List.isPrefixOf]
theorem has_two (s : ByteArray) (p : Nat) (a b : UInt8) : Lib.hasPrefix (s.extract p s.size).data.toList [a, b] = twoB s p a.toNat b.toNat := by
 unfold Lib.hasPrefix
 rw [list_rest, pre_two]
theorem line_at (s : ByteArray) : ∀ (n j : Nat), j + n ≤ s.size → (∀ x, x < n → ((bn s (j + x) : Int) != 10) = true) → (j + n = s.size ∨ ((bn s (j + n) : Int) != 10) = false) → lineN s j = j + n
 | 0, j, _, _, h => by
  rcases h with h | h
  ·exact lineN_end (by omega)
  ·exact lineN_stop h
 | n + 1, j, hl, hx, h => by
  rw [lineN_step (by omega) (by have := hx 0 (by omega); simpa using this), line_at s n (j + 1) (by omega) (fun x hx' => by have := hx (x + 1) (by omega); rwa [show j + (x + 1) = j + 1 + x by omega] at this) (by rcases h with h | h; exact .inl (by omega); exact .inr (by rwa [show j + (n + 1) = j + 1 + n by omega] at h))]
  omega
theorem end_at (s : ByteArray) : ∀ (n j : Nat), j + n ≤ s.size → (∀ x, x < n → twoB s (j + x) 42 47 = false) → (j + n = s.size ∨ twoB s (j + n) 42 47 = true) → endN s j = j + n
 | 0, j, _, _, h => by
  rcases h with h | h
  ·exact endN_end (by omega)
  ·exact endN_stop h
 | n + 1, j, hl, hx, h => by
  rw [endN_step (by omega) (by have := hx 0 (by omega); simpa using this), end_at s n (j + 1) (by omega) (fun x hx' => by have := hx (x + 1) (by omega); rwa [show j + (x + 1) = j + 1 + x by omega] at this) (by rcases h with h | h; exact .inl (by omega); exact .inr (by rwa [show j + (n + 1) = j + 1 + n by omega] at h))]
  omega
theorem ne10 (c : UInt8) : (((c.toNat : Nat) : Int) != 10) = true ↔ c ≠ 10 := by
 rw [bne_iff_ne]
 constructor
 ·rintro h rfl; exact h rfl
 ·intro h e
  exact h (UInt8.toNat_inj.1 (by have : (10 : UInt8).toNat = 10 := rfl; omega))
theorem idx_line (s : ByteArray) (j : Nat) (hj : j ≤ s.size) : (Lib.indexByte (s.extract j s.size).data.toList 10 < 0 ∧ lineN s j = s.size) ∨ ∃ n : Nat, Lib.indexByte (s.extract j s.size).data.toList 10 = (n : Int) ∧ lineN s j = j + n ∧ j + n < s.size := by
 rw [list_rest]
 have hge := Lib.indexByte_ge (s.data.toList.drop j) 10
 rcases Int.lt_or_le (Lib.indexByte (s.data.toList.drop j) 10) 0 with h | h
 ·refine .inl ⟨h, ?_⟩
  have hn := Lib.indexByte_none (l := s.data.toList.drop j) (c := 10) (by omega)
  have := line_at s (s.size - j) j (by omega) (fun x hx => by
   have h1 := hn x
   rw [List.getElem?_drop, list_at s (by omega)] at h1
   rw [bn_bu, ne10]
   exact fun e => h1 (by rw [e])) (.inl (by omega))
  omega
 ·obtain ⟨n, hn⟩ : ∃ n : Nat, Lib.indexByte (s.data.toList.drop j) 10 = (n : Int) := ⟨_, (Int.toNat_of_nonneg h).symm⟩
  obtain ⟨h1, h2⟩ := Lib.indexByte_some hn
  rw [List.getElem?_drop] at h1
  have hlt : j + n < s.size := by
   rcases Nat.lt_or_ge (j + n) s.size with h3 | h3
   ·exact h3
   ·rw [list_no s h3] at h1; cases h1
  refine .inr ⟨n, hn, line_at s n j (by omega) (fun x hx => ?_) (.inr ?_), hlt⟩
  ·have h3 := h2 x hx
   rw [List.getElem?_drop, list_at s (by omega)] at h3
   rw [bn_bu, ne10]
   exact fun e => h3 (by rw [e])
  ·rw [list_at s hlt] at h1
   injection h1 with h1
   rw [bn_bu, h1]
   rfl
theorem idx_end (s : ByteArray) (j : Nat) (hj : j ≤ s.size) : (Lib.index (s.extract j s.size).data.toList [42, 47] < 0 ∧ endN s j = s.size) ∨ ∃ n : Nat, Lib.index (s.extract j s.size).data.toList [42, 47] = (n : Int) ∧ endN s j = j + n ∧ j + n < s.size := by
 rw [list_rest]
 have ho : ∀ x, Lib.occAt (s.data.toList.drop j) [42, 47] x = twoB s (j + x) 42 47 := fun x => by
  unfold Lib.occAt
  rw [List.drop_drop]
  exact pre_two s (j + x) 42 47
 rcases Lib.index_spec (s.data.toList.drop j) [42, 47] with ⟨h1, h2⟩ | ⟨n, h1, h2, h3, h4⟩
 ·refine .inl ⟨by omega, ?_⟩
  have := end_at s (s.size - j) j (by omega) (fun x hx => by rw [← ho]; exact h2 x (by rw [List.length_drop, list_len]; omega)) (.inl (by omega))
  omega
 ·rw [ho] at h3
  have hlt := twoB_lt h3
  exact .inr ⟨n, h1, end_at s n j (by omega) (fun x hx => by rw [← ho]; exact h4 x hx) (.inr h3), by omega⟩
end Go.Proofs.YtibcpdmeigdgpaaGreatDoor
namespace Go.Proofs.YtibcpdmeigdgpaaGreatDoor
end Go.Proofs.YtibcpdmeigdgpaaGreatDoor
namespace Go.Proofs.YtibcpdmeigdgpaaGreatDoor
open Go.RowKit
end Go.Proofs.YtibcpdmeigdgpaaGreatDoor
namespace Go.Proofs.YtibcpdmeigdgpaaGreatDoor
open Go.RowKit
def T.kindC : T → Prop
 | .nil => False
 | .mk k _ _ _ _ => k = 3 ∨ k = 4
end Go.Proofs.YtibcpdmeigdgpaaGreatDoor
