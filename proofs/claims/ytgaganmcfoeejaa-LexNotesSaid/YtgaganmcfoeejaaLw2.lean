/- Plain facts for the law LexNotes: a comment, or blanks, between two texts. -/
import Derived.Test.YtgaganmcfoeejaaLw1
namespace Go.Proofs.Ytgaganmcfoeejaa

theorem lineN_skip {u : ByteArray} : ∀ (n j : Nat), j + n ≤ u.size → (∀ i, i < n → ((bn u (j + i) : Int) != 10) = true) → lineN u j = lineN u (j + n)
  | 0, _, _, _ => rfl
  | n + 1, j, h, hb => by
    have h0 := hb 0 (by omega)
    rw [Nat.add_zero] at h0
    rw [lineN_step (by omega) h0, lineN_skip n (j + 1) (by omega) fun i hi => by rw [show j + 1 + i = j + (i + 1) by omega]; exact hb (i + 1) (by omega)]
    congr 1
    omega
theorem endN_skip {u : ByteArray} : ∀ (n j : Nat), j + n ≤ u.size → (∀ i, i < n → twoB u (j + i) 42 47 = false) → endN u j = endN u (j + n)
  | 0, _, _, _ => rfl
  | n + 1, j, h, hb => by
    have h0 := hb 0 (by omega)
    rw [Nat.add_zero] at h0
    rw [endN_step (by omega) h0, endN_skip n (j + 1) (by omega) fun i hi => by rw [show j + 1 + i = j + (i + 1) by omega]; exact hb (i + 1) (by omega)]
    congr 1
    omega
/-- A comment of each kind stands at a place. -/
structure NoteAt (u : ByteArray) (z n : Nat) : Prop where
  b0 : (bn u z : Int) = 32
  b1 : (bn u (z + 1) : Int) = 47
  b2 : (bn u (z + 2) : Int) = 42
  bc : ∀ i, i < n → (bn u (z + 3 + i) : Int) ≠ 42 ∧ (bn u (z + 3 + i) : Int) ≠ 10
  b3 : (bn u (z + 3 + n) : Int) = 42
  b4 : (bn u (z + 4 + n) : Int) = 47
  b5 : (bn u (z + 5 + n) : Int) = 32
  b6 : (bn u (z + 6 + n) : Int) = 37
  bd : ∀ i, i < n → (bn u (z + 7 + n + i) : Int) ≠ 10
  b7 : (bn u (z + 7 + n + n) : Int) = 10
  b8 : (bn u (z + 8 + n + n) : Int) = 32
  sz : z + 9 + n + n ≤ u.size
theorem two_no {u : ByteArray} {j : Nat} {a b : Int} (h : (bn u j : Int) ≠ a) : twoB u j a b = false := by
  unfold twoB
  have : ((bn u j : Int) == a) = false := by simpa using h
  rw [this]
  simp
theorem two_yes {u : ByteArray} {j : Nat} {a b : Int} (h0 : j + 1 < u.size) (h : (bn u j : Int) = a) (h1 : (bn u (j + 1) : Int) = b) : twoB u j a b = true := by
  unfold twoB
  rw [h, h1, decide_eq_true h0]
  simp
theorem bet_blank {u : ByteArray} {j : Nat} (h0 : j < u.size) (h : blankB (bn u j) = true) : betN u j = betN u (j + 1) := by
  rw [betN_eq h0, if_pos h]
theorem NoteAt.line {u : ByteArray} {z n : Nat} (h : NoteAt u z n) : lineN u (z + 6 + n) = z + 7 + n + n ∧ lineN u z = z + 7 + n + n := by
  have hs := h.sz
  have ne : ∀ {j : Nat} {c : Int}, (bn u j : Int) = c → (c != 10) = true → ((bn u j : Int) != 10) = true := fun h h' => by rw [h]; exact h'
  have e6 : lineN u (z + 6 + n) = z + 7 + n + n := by
    rw [lineN_step (by omega) (ne h.b6 (by decide)), show z + 6 + n + 1 = z + 7 + n by omega, lineN_skip n _ (by omega) fun i hi => by simpa using h.bd i hi, lineN_stop]
    rw [h.b7]
    rfl
  refine ⟨e6, ?_⟩
  rw [lineN_step (by omega) (ne h.b0 (by decide)), lineN_step (by omega) (ne h.b1 (by decide)), lineN_step (by omega) (ne h.b2 (by decide)), show z + 1 + 1 + 1 = z + 3 by omega,
    lineN_skip n _ (by omega) fun i hi => by simpa using (h.bc i hi).2, lineN_step (by omega) (ne h.b3 (by decide)), show z + 3 + n + 1 = z + 4 + n by omega, lineN_step (by omega) (ne h.b4 (by decide)),
    show z + 4 + n + 1 = z + 5 + n by omega, lineN_step (by omega) (ne h.b5 (by decide)), show z + 5 + n + 1 = z + 6 + n by omega, e6]
theorem NoteAt.bet {u : ByteArray} {z n : Nat} (h : NoteAt u z n) : betN u z = betN u (z + 9 + n + n) ∧ betN u (z + 7 + n + n) = betN u (z + 9 + n + n) := by
  have hs := h.sz
  have e7 : betN u (z + 7 + n + n) = betN u (z + 9 + n + n) := by
    rw [bet_blank (by omega) (by rw [h.b7]; rfl), show z + 7 + n + n + 1 = z + 8 + n + n by omega, bet_blank (by omega) (by rw [h.b8]; rfl), show z + 8 + n + n + 1 = z + 9 + n + n by omega]
  refine ⟨?_, e7⟩
  have e6 : betN u (z + 6 + n) = betN u (z + 9 + n + n) := by
    rw [betN_eq (by omega), h.b6, if_neg (by decide), if_pos (by decide), h.line.1, e7]
  have e5 : betN u (z + 5 + n) = betN u (z + 9 + n + n) := by
    rw [bet_blank (by omega) (by rw [h.b5]; rfl), show z + 5 + n + 1 = z + 6 + n by omega, e6]
  have e3 : endN u (z + 1 + 2) = z + 3 + n := by
    rw [show z + 1 + 2 = z + 3 by omega, endN_skip n _ (by omega) fun i hi => two_no (h.bc i hi).1, endN_stop (two_yes (by omega) h.b3 (by rw [show z + 3 + n + 1 = z + 4 + n by omega]; exact h.b4))]
  rw [bet_blank (by omega) (by rw [h.b0]; rfl), betN_eq (j := z + 1) (by omega), h.b1, if_neg (by decide), if_neg (by decide), if_pos (two_yes (by omega) h.b1 (by rw [show z + 1 + 1 = z + 2 by omega]; exact h.b2)), e3, if_pos (by omega),
    show z + 3 + n + 2 = z + 5 + n by omega, e5]
theorem bu_left {a b : ByteArray} {i : Nat} (h : i < a.size) : bu (a ++ b) i = bu a i := by rw [bu_append, if_pos h]
theorem bu_right {a b : ByteArray} (i : Nat) : bu (a ++ b) (a.size + i) = bu b i := by rw [bu_append, if_neg (by omega), Nat.add_sub_cancel_left]
/-- Tokens that differ in their places alone. -/
def SameTk (x y : Tk) : Prop := x.k = y.k ∧ x.t = y.t
/-- The note of the law, between two texts. -/
def noted (s cl t : ByteArray) : ByteArray := s ++ ⟨#[32, 47, 42]⟩ ++ cl ++ ⟨#[42, 47, 32, 37]⟩ ++ cl ++ ⟨#[10, 32]⟩ ++ t
def spaced (s t : ByteArray) : ByteArray := s ++ ⟨#[32, 10, 32]⟩ ++ t
theorem size3 : (ByteArray.mk #[32, 47, 42]).size = 3 ∧ (ByteArray.mk #[42, 47, 32, 37]).size = 4 ∧ (ByteArray.mk #[10, 32]).size = 2 ∧ (ByteArray.mk #[32, 10, 32]).size = 3 := ⟨rfl, rfl, rfl, rfl⟩
theorem noted_size (s cl t : ByteArray) : (noted s cl t).size = s.size + 9 + cl.size + cl.size + t.size := by
  unfold noted
  simp only [ByteArray.size_append, size3.1, size3.2.1, size3.2.2.1]
  omega
theorem spaced_size (s t : ByteArray) : (spaced s t).size = s.size + 3 + t.size := by
  unfold spaced
  simp only [ByteArray.size_append, size3.2.2.2]
theorem notes_plain {s cl t : ByteArray} {a r : List Tk} (hcl : ∀ i, i < cl.size → bu cl i ≠ 10 ∧ bu cl i ≠ 42) (ha : lexN (spaced s t) = .ok a) (hr : lexN s = .ok r) (hs : s.size ≤ 512) (ht : t.size ≤ 512) (hc : cl.size ≤ 256) :
    ∃ b, lexN (noted s cl t) = .ok b ∧ b.length = a.length ∧ ∀ i (h : i < a.length) (h' : i < b.length), b[i].k = a[i].k ∧ b[i].t = a[i].t := by
  have hu := noted_size s cl t
  have hu' := spaced_size s t
  obtain ⟨z3, z4, z2, z3'⟩ := size3
  -- the bytes
  have p1 : ∀ i, i < s.size → bu (noted s cl t) i = bu s i := fun i hi => by
    unfold noted
    rw [bu_left, bu_left, bu_left, bu_left, bu_left, bu_left hi]
    all_goals simp only [ByteArray.size_append]; omega
  have p2 : ∀ i, i < 3 → bu (noted s cl t) (s.size + i) = bu ⟨#[32, 47, 42]⟩ i := fun i hi => by
    unfold noted
    rw [bu_left, bu_left, bu_left, bu_left, bu_left, bu_right]
    all_goals simp only [ByteArray.size_append, z3]; omega
  have p3 : ∀ i, i < cl.size → bu (noted s cl t) (s.size + 3 + i) = bu cl i := fun i hi => by
    have e : s.size + 3 = (s ++ (⟨#[32, 47, 42]⟩ : ByteArray)).size := by rw [ByteArray.size_append, z3]
    unfold noted
    rw [bu_left, bu_left, bu_left, bu_left, e, bu_right]
    all_goals simp only [ByteArray.size_append, z3]; omega
  have p4 : ∀ i, i < 4 → bu (noted s cl t) (s.size + 3 + cl.size + i) = bu ⟨#[42, 47, 32, 37]⟩ i := fun i hi => by
    have e : s.size + 3 + cl.size = (s ++ (⟨#[32, 47, 42]⟩ : ByteArray) ++ cl).size := by rw [ByteArray.size_append, ByteArray.size_append, z3]
    unfold noted
    rw [bu_left, bu_left, bu_left, e, bu_right]
    all_goals simp only [ByteArray.size_append, z3, z4]; omega
  have p5 : ∀ i, i < cl.size → bu (noted s cl t) (s.size + 3 + cl.size + 4 + i) = bu cl i := fun i hi => by
    have e : s.size + 3 + cl.size + 4 = (s ++ (⟨#[32, 47, 42]⟩ : ByteArray) ++ cl ++ (⟨#[42, 47, 32, 37]⟩ : ByteArray)).size := by rw [ByteArray.size_append, ByteArray.size_append, ByteArray.size_append, z3, z4]
    unfold noted
    rw [bu_left, bu_left, e, bu_right]
    all_goals simp only [ByteArray.size_append, z3, z4]; omega
  have p6 : ∀ i, i < 2 → bu (noted s cl t) (s.size + 3 + cl.size + 4 + cl.size + i) = bu ⟨#[10, 32]⟩ i := fun i hi => by
    have e : s.size + 3 + cl.size + 4 + cl.size = (s ++ (⟨#[32, 47, 42]⟩ : ByteArray) ++ cl ++ (⟨#[42, 47, 32, 37]⟩ : ByteArray) ++ cl).size := by simp only [ByteArray.size_append, z3, z4]
    unfold noted
    rw [bu_left, e, bu_right]
    all_goals simp only [ByteArray.size_append, z3, z4, z2]; omega
  have p7 : ∀ i, bu (noted s cl t) (s.size + 9 + cl.size + cl.size + i) = bu t i := fun i => by
    have e : s.size + 9 + cl.size + cl.size = (s ++ (⟨#[32, 47, 42]⟩ : ByteArray) ++ cl ++ (⟨#[42, 47, 32, 37]⟩ : ByteArray) ++ cl ++ (⟨#[10, 32]⟩ : ByteArray)).size := by simp only [ByteArray.size_append, z3, z4, z2]; omega
    unfold noted
    rw [e, bu_right]
  have q1 : ∀ i, i < s.size → bu (spaced s t) i = bu s i := fun i hi => by
    unfold spaced
    rw [bu_left, bu_left hi]
    all_goals simp only [ByteArray.size_append]; omega
  have q2 : ∀ i, i < 3 → bu (spaced s t) (s.size + i) = bu ⟨#[32, 10, 32]⟩ i := fun i hi => by
    unfold spaced
    rw [bu_left, bu_right]
    all_goals simp only [ByteArray.size_append, z3']; omega
  have q3 : ∀ i, bu (spaced s t) (s.size + 3 + i) = bu t i := fun i => by
    have e : s.size + 3 = (s ++ (⟨#[32, 10, 32]⟩ : ByteArray)).size := by rw [ByteArray.size_append, z3']
    unfold spaced
    rw [e, bu_right]
  have toN : ∀ {v : ByteArray} {i : Nat} {c : UInt8}, bu v i = c → (bn v i : Int) = (c.toNat : Int) := fun h => by rw [bn_bu, h]
  have neN : ∀ {v : ByteArray} {i : Nat} {c : UInt8}, bu v i ≠ c → (bn v i : Int) ≠ (c.toNat : Int) := fun h h' => h (by rw [bn_bu] at h'; exact UInt8.toNat_inj.1 (by omega))
  have HN : NoteAt (noted s cl t) s.size cl.size := {
    b0 := toN (p2 0 (by omega))
    b1 := toN (p2 1 (by omega))
    b2 := toN (p2 2 (by omega))
    bc := fun i hi => ⟨neN (c := 42) (by rw [p3 i hi]; exact (hcl i hi).2), neN (c := 10) (by rw [p3 i hi]; exact (hcl i hi).1)⟩
    b3 := toN (p4 0 (by omega))
    b4 := by have := toN (p4 1 (by omega)); rw [show s.size + 3 + cl.size + 1 = s.size + 4 + cl.size by omega] at this; exact this
    b5 := by have := toN (p4 2 (by omega)); rw [show s.size + 3 + cl.size + 2 = s.size + 5 + cl.size by omega] at this; exact this
    b6 := by have := toN (p4 3 (by omega)); rw [show s.size + 3 + cl.size + 3 = s.size + 6 + cl.size by omega] at this; exact this
    bd := fun i hi => neN (c := 10) (by rw [show s.size + 7 + cl.size + i = s.size + 3 + cl.size + 4 + i by omega, p5 i hi]; exact (hcl i hi).1)
    b7 := by have := toN (p6 0 (by omega)); rw [show s.size + 3 + cl.size + 4 + cl.size + 0 = s.size + 7 + cl.size + cl.size by omega] at this; exact this
    b8 := by have := toN (p6 1 (by omega)); rw [show s.size + 3 + cl.size + 4 + cl.size + 1 = s.size + 8 + cl.size + cl.size by omega] at this; exact this
    sz := by omega }
  have s0 : (bn (spaced s t) s.size : Int) = 32 := toN (q2 0 (by omega))
  have s1 : (bn (spaced s t) (s.size + 1) : Int) = 10 := toN (q2 1 (by omega))
  have s2 : (bn (spaced s t) (s.size + 1 + 1) : Int) = 32 := toN (q2 2 (by omega))
  have f0 : betN (spaced s t) s.size = betN (spaced s t) (s.size + 1) := bet_blank (by omega) (by rw [s0]; rfl)
  have f1 : betN (spaced s t) (s.size + 1) = betN (spaced s t) (s.size + 3) := by
    rw [bet_blank (by omega) (by rw [s1]; rfl), bet_blank (by omega) (by rw [s2]; rfl)]
  have A1 : Ahead s (spaced s t) := ⟨by omega, q1, by rw [s0]; rfl, by
    rw [lineN_step (by omega) (by rw [s0]; rfl), lineN_stop (by rw [s1]; rfl), f0]⟩
  have A2 : Ahead s (noted s cl t) := ⟨by omega, p1, by rw [HN.b0]; rfl, by rw [HN.line.2, HN.bet.2, HN.bet.1]⟩
  have S1 : Alike (noted s cl t) (spaced s t) (s.size + 9 + cl.size + cl.size) (s.size + 3) t.size := ⟨by omega, by omega, fun i => by rw [p7, q3]⟩
  obtain ⟨h1, _⟩ := lex_toks ha
  obtain ⟨h2, _⟩ := lex_toks hr
  rw [A1.toks _ 0 [] r (Nat.le_refl _) (Nat.zero_le _) h2, bet_toks A1.lt (by omega) (f0.trans f1)] at h1
  obtain ⟨x, hx, _, h5⟩ := S1.toks _ 0 r r a (Nat.le_refl _) (Nat.zero_le _) (fun f _ => by rw [lex_last hr (by omega), lex_last hr (by omega)]) h1
  have hlen := (lexN_ok ha).1
  rw [hx, List.length_append] at hlen
  have h6 := h5 hlen
  refine ⟨r ++ x.map (Tk.sh (s.size + 9 + cl.size + cl.size) (s.size + 3)), toks_lex ?_ (by omega), by rw [hx]; simp, ?_⟩
  · rw [A2.toks _ 0 [] r (Nat.le_refl _) (Nat.zero_le _) h2, bet_toks A2.lt (by omega) HN.bet.1]
    exact h6
  · subst hx
    intro i h h'
    by_cases hi : i < r.length
    · rw [List.getElem_append_left hi, List.getElem_append_left hi]
      exact ⟨rfl, rfl⟩
    · rw [List.getElem_append_right (by omega), List.getElem_append_right (by omega), List.getElem_map]
      exact ⟨rfl, rfl⟩
end Go.Proofs.Ytgaganmcfoeejaa
