/- Plain facts on texts that are joined: a text with a blank behind it; two texts that are the same from two places on. Plain lemmas: the library's searches in the words of the plain lexer. Plain facts on quoting: which names stand without quotes; what a quoted name is read as. Terms that can be written, plain. -/
import Derived.Test.YtiefbdblefliaaaDoorGb
import Derived.Lib.IndexMore
import Derived.Lib.IndexLaws
import Derived.Lib.Strings
import Derived.Test.YtiefbdblefliaaaDoorGd
namespace Go.Proofs.YtiefbdblefliaaaDoor

/-- Two texts that are the same from two places on. -/
structure Alike (u u' : ByteArray) (o o' n : Nat) : Prop where
  su : u.size = o + n
  su' : u'.size = o' + n
  eq : ∀ i, bu u (o + i) = bu u' (o' + i)
theorem Alike.bn {u u' : ByteArray} {o o' n : Nat} (h : Alike u u' o o' n) (i : Nat) : bn u (o + i) = bn u' (o' + i) := by
  rw [bn_bu, bn_bu, h.eq]
theorem Alike.two {u u' : ByteArray} {o o' n : Nat} (h : Alike u u' o o' n) (i : Nat) (a b : Int) : twoB u (o + i) a b = twoB u' (o' + i) a b := by
  have h1 := h.su
  have h2 := h.su'
  have h3 := h.bn (i + 1)
  rw [← Nat.add_assoc, ← Nat.add_assoc] at h3
  have h4 : decide (o + i + 1 < u.size) = decide (o' + i + 1 < u'.size) := decide_eq_decide.2 (by omega)
  unfold twoB
  rw [h.bn i, h3, h4]
theorem Alike.runF {u u' : ByteArray} {o o' n : Nat} (h : Alike u u' o o' n) : ∀ (f : Nat) (k : Int) (j : Nat), ∃ d, runF f k u (o + j) = o + d ∧ Go.Proofs.YtiefbdblefliaaaDoor.runF f k u' (o' + j) = o' + d ∧ j ≤ d
  | 0, _, j => ⟨j, rfl, rfl, Nat.le_refl _⟩
  | f + 1, k, j => by
    unfold Go.Proofs.YtiefbdblefliaaaDoor.runF
    rw [h.bn j]
    split
    · obtain ⟨d, h1, h2, h3⟩ := h.runF f k (j + 1)
      exact ⟨d, h1, h2, by omega⟩
    · exact ⟨j, rfl, rfl, Nat.le_refl _⟩
theorem Alike.runN {u u' : ByteArray} {o o' n : Nat} (h : Alike u u' o o' n) (k : Int) (j : Nat) : ∃ d, runN k u (o + j) = o + d ∧ Go.Proofs.YtiefbdblefliaaaDoor.runN k u' (o' + j) = o' + d ∧ j ≤ d := by
  have h1 := h.su
  have h2 := h.su'
  have e1 : u.size - (o + j) = n - j := by omega
  have e2 : u'.size - (o' + j) = n - j := by omega
  unfold Go.Proofs.YtiefbdblefliaaaDoor.runN
  rw [e1, e2]
  exact h.runF _ k j
theorem Alike.lineF {u u' : ByteArray} {o o' n : Nat} (h : Alike u u' o o' n) : ∀ (f : Nat) (j : Nat), ∃ d, lineF f u (o + j) = o + d ∧ Go.Proofs.YtiefbdblefliaaaDoor.lineF f u' (o' + j) = o' + d ∧ j ≤ d
  | 0, j => ⟨j, rfl, rfl, Nat.le_refl _⟩
  | f + 1, j => by
    unfold Go.Proofs.YtiefbdblefliaaaDoor.lineF
    rw [h.bn j]
    split
    · obtain ⟨d, h1, h2, h3⟩ := h.lineF f (j + 1)
      exact ⟨d, h1, h2, by omega⟩
    · exact ⟨j, rfl, rfl, Nat.le_refl _⟩
theorem Alike.lineN {u u' : ByteArray} {o o' n : Nat} (h : Alike u u' o o' n) (j : Nat) : ∃ d, lineN u (o + j) = o + d ∧ Go.Proofs.YtiefbdblefliaaaDoor.lineN u' (o' + j) = o' + d ∧ j ≤ d := by
  have h1 := h.su
  have h2 := h.su'
  have e1 : u.size - (o + j) = n - j := by omega
  have e2 : u'.size - (o' + j) = n - j := by omega
  unfold Go.Proofs.YtiefbdblefliaaaDoor.lineN
  rw [e1, e2]
  exact h.lineF _ j
theorem Alike.endF {u u' : ByteArray} {o o' n : Nat} (h : Alike u u' o o' n) : ∀ (f : Nat) (j : Nat), ∃ d, endF f u (o + j) = o + d ∧ Go.Proofs.YtiefbdblefliaaaDoor.endF f u' (o' + j) = o' + d ∧ j ≤ d
  | 0, j => ⟨j, rfl, rfl, Nat.le_refl _⟩
  | f + 1, j => by
    unfold Go.Proofs.YtiefbdblefliaaaDoor.endF
    rw [h.two j]
    split
    · exact ⟨j, rfl, rfl, Nat.le_refl _⟩
    · obtain ⟨d, h1, h2, h3⟩ := h.endF f (j + 1)
      exact ⟨d, h1, h2, by omega⟩
theorem Alike.endN {u u' : ByteArray} {o o' n : Nat} (h : Alike u u' o o' n) (j : Nat) : ∃ d, endN u (o + j) = o + d ∧ Go.Proofs.YtiefbdblefliaaaDoor.endN u' (o' + j) = o' + d ∧ j ≤ d := by
  have h1 := h.su
  have h2 := h.su'
  have e1 : u.size - (o + j) = n - j := by omega
  have e2 : u'.size - (o' + j) = n - j := by omega
  unfold Go.Proofs.YtiefbdblefliaaaDoor.endN
  rw [e1, e2]
  exact h.endF _ j
theorem Alike.betF {u u' : ByteArray} {o o' n : Nat} (h : Alike u u' o o' n) : ∀ (f : Nat) (j : Nat), ∃ d b, betF f u (o + j) = (o + d, b) ∧ Go.Proofs.YtiefbdblefliaaaDoor.betF f u' (o' + j) = (o' + d, b) ∧ j ≤ d
  | 0, j => ⟨j, true, rfl, rfl, Nat.le_refl _⟩
  | f + 1, j => by
    have h1 := h.su
    have h2 := h.su'
    unfold Go.Proofs.YtiefbdblefliaaaDoor.betF
    rw [h.bn j, h.two j]
    by_cases hj : j < n
    · rw [if_pos (by omega : o + j < u.size), if_pos (by omega : o' + j < u'.size)]
      split
      · obtain ⟨d, b, h3, h4, h5⟩ := h.betF f (j + 1)
        exact ⟨d, b, h3, h4, by omega⟩
      · split
        · obtain ⟨c, h3, h4, h5⟩ := h.lineN j
          rw [h3, h4]
          obtain ⟨d, b, h6, h7, h8⟩ := h.betF f c
          exact ⟨d, b, h6, h7, by omega⟩
        · split
          · obtain ⟨c, h3, h4, h5⟩ := h.endN (j + 2)
            rw [← Nat.add_assoc] at h3 h4
            rw [h3, h4]
            by_cases hc : c < n
            · rw [if_pos (by omega : o + c < u.size), if_pos (by omega : o' + c < u'.size)]
              obtain ⟨d, b, h6, h7, h8⟩ := h.betF f (c + 2)
              exact ⟨d, b, h6, h7, by omega⟩
            · rw [if_neg (by omega : ¬ o + c < u.size), if_neg (by omega : ¬ o' + c < u'.size)]
              exact ⟨j, false, rfl, rfl, Nat.le_refl _⟩
          · exact ⟨j, true, rfl, rfl, Nat.le_refl _⟩
    · rw [if_neg (by omega : ¬ o + j < u.size), if_neg (by omega : ¬ o' + j < u'.size)]
      exact ⟨j, true, rfl, rfl, Nat.le_refl _⟩
theorem Alike.betN {u u' : ByteArray} {o o' n : Nat} (h : Alike u u' o o' n) (j : Nat) : ∃ d b, betN u (o + j) = (o + d, b) ∧ Go.Proofs.YtiefbdblefliaaaDoor.betN u' (o' + j) = (o' + d, b) ∧ j ≤ d := by
  have h1 := h.su
  have h2 := h.su'
  have e1 : u.size - (o + j) = n - j := by omega
  have e2 : u'.size - (o' + j) = n - j := by omega
  unfold Go.Proofs.YtiefbdblefliaaaDoor.betN
  rw [e1, e2]
  exact h.betF _ j
theorem Alike.quoF {u u' : ByteArray} {o o' n : Nat} (h : Alike u u' o o' n) : ∀ (f i k : Nat) (b : List UInt8), (∃ t p, quoF f u (o + i) (o + k) b = .ok t (o + p) ∧ Go.Proofs.YtiefbdblefliaaaDoor.quoF f u' (o' + i) (o' + k) b = .ok t (o' + p)) ∨
    ∃ p e, Go.Proofs.YtiefbdblefliaaaDoor.quoF f u (o + i) (o + k) b = .bad (o + p) e ∧ Go.Proofs.YtiefbdblefliaaaDoor.quoF f u' (o' + i) (o' + k) b = .bad (o' + p) e
  | 0, i, _, _ => .inr ⟨i, 31, rfl, rfl⟩
  | f + 1, i, k, b => by
    have h1 := h.su
    have h2 := h.su'
    have e1 := h.bn (k + 1)
    have e2 := h.eq (k + 1)
    rw [← Nat.add_assoc, ← Nat.add_assoc] at e1 e2
    unfold Go.Proofs.YtiefbdblefliaaaDoor.quoF
    rw [h.bn k, h.two k, e1, e2, h.eq k]
    by_cases hk : k < n
    · rw [if_pos (by omega : o + k < u.size), if_pos (by omega : o' + k < u'.size)]
      split
      · exact h.quoF f i (k + 2) _
      · split
        · exact .inl ⟨b, k + 1, rfl, rfl⟩
        · split
          · by_cases hk1 : k + 1 = n
            · rw [if_pos (by omega : o + k + 1 = u.size), if_pos (by omega : o' + k + 1 = u'.size)]
              exact .inr ⟨i, 31, rfl, rfl⟩
            · rw [if_neg (by omega : ¬ o + k + 1 = u.size), if_neg (by omega : ¬ o' + k + 1 = u'.size)]
              split
              · exact h.quoF f i (k + 2) _
              · split
                · exact h.quoF f i (k + 2) _
                · split
                  · exact h.quoF f i (k + 2) _
                  · exact .inr ⟨k, 32, rfl, rfl⟩
          · split
            · exact .inr ⟨k, 30, rfl, rfl⟩
            · exact h.quoF f i (k + 1) _
    · rw [if_neg (by omega : ¬ o + k < u.size), if_neg (by omega : ¬ o' + k < u'.size)]
      exact .inr ⟨i, 31, rfl, rfl⟩
theorem Alike.quoN {u u' : ByteArray} {o o' n : Nat} (h : Alike u u' o o' n) (i k : Nat) (b : List UInt8) : (∃ t p, quoN u (o + i) (o + k) b = .ok t (o + p) ∧ Go.Proofs.YtiefbdblefliaaaDoor.quoN u' (o' + i) (o' + k) b = .ok t (o' + p)) ∨
    ∃ p e, Go.Proofs.YtiefbdblefliaaaDoor.quoN u (o + i) (o + k) b = .bad (o + p) e ∧ Go.Proofs.YtiefbdblefliaaaDoor.quoN u' (o' + i) (o' + k) b = .bad (o' + p) e := by
  have h1 := h.su
  have h2 := h.su'
  have e1 : u.size - (o + k) = n - k := by omega
  have e2 : u'.size - (o' + k) = n - k := by omega
  unfold Go.Proofs.YtiefbdblefliaaaDoor.quoN
  rw [e1, e2]
  exact h.quoF _ i k b
/-- Two heads of tokens, alike. -/
def HP (o o' : Nat) (q : Bool) (r r' : Option (Int × Nat)) : Prop := (r = none ∧ r' = none) ∨ ∃ K j j', r = some (K, j) ∧ r' = some (K, j') ∧ (q = false → ∃ d, j = o + d ∧ j' = o' + d)
theorem HP.ite {o o' : Nat} {q : Bool} {c : Prop} [Decidable c] {a b a' b' : Option (Int × Nat)} (h1 : c → HP o o' q a a') (h2 : ¬c → HP o o' q b b') : HP o o' q (if c then a else b) (if c then a' else b') := by
  by_cases h : c
  · rw [if_pos h, if_pos h]; exact h1 h
  · rw [if_neg h, if_neg h]; exact h2 h
theorem HP.mk {o o' : Nat} {q : Bool} (K : Int) (d : Nat) : HP o o' q (some (K, o + d)) (some (K, o' + d)) := .inr ⟨K, _, _, rfl, rfl, fun _ => ⟨d, rfl, rfl⟩⟩
theorem Alike.headN {u u' : ByteArray} {o o' n : Nat} (h : Alike u u' o o' n) (f : Nat) (q q' : Option Tk) (ho : opens q (o + f) = opens q' (o' + f)) :
    HP o o' ((Go.Proofs.YtiefbdblefliaaaDoor.bn u' (o' + f) : Int) == 39) (headN u (o + f) q) (Go.Proofs.YtiefbdblefliaaaDoor.headN u' (o' + f) q') := by
  have h1 := h.su
  have h2 := h.su'
  have e1 := h.bn (f + 1)
  rw [← Nat.add_assoc, ← Nat.add_assoc] at e1
  have e3 : decide (o + f + 1 = u.size) = decide (o' + f + 1 = u'.size) := decide_eq_decide.2 (by omega)
  obtain ⟨d1, a1, a2, _⟩ := h.runN 1 f
  obtain ⟨d2, a3, a4, _⟩ := h.runN 2 f
  obtain ⟨d3, a5, a6, _⟩ := h.runN 3 f
  unfold Go.Proofs.YtiefbdblefliaaaDoor.headN
  rw [h.bn f, e1, e3, ho, a1, a2, a3, a4, a5, a6]
  refine HP.ite (fun _ => HP.mk 6 (f + 1)) fun _ => HP.ite (fun _ => HP.mk 1 d1) fun _ => HP.ite (fun _ => HP.mk 2 d1) fun _ => HP.ite (fun _ => HP.mk 3 d2) fun _ => HP.ite (fun _ => HP.mk 1 d3) fun _ => HP.ite (fun _ => HP.mk 1 (f + 1)) fun _ => HP.ite (fun h39 => ?_) fun _ => HP.ite (fun _ => HP.mk _ (f + 1)) fun _ => .inl ⟨rfl, rfl⟩
  exact .inr ⟨1, _, _, rfl, rfl, fun hh => by rw [h39] at hh; cases hh⟩
/-- A token, as it stands in the other text. -/
def Tk.sh (o o' : Nat) (x : Tk) : Tk := ⟨x.k, x.t, x.a - o' + o, x.b - o' + o⟩
theorem bu_get {s : ByteArray} {i : Nat} (h : i < s.data.size) : s.data[i] = bu s i := by
  rw [bu, List.getD_eq_getElem?_getD, Array.getElem?_toList, Array.getElem?_eq_getElem h]
  rfl
theorem Alike.extract {u u' : ByteArray} {o o' n : Nat} (h : Alike u u' o o' n) (f d : Nat) : u.extract (o + f) (o + d) = u'.extract (o' + f) (o' + d) := by
  have h1 : u.data.size = o + n := h.su
  have h2 : u'.data.size = o' + n := h.su'
  apply ByteArray.ext
  rw [ByteArray.data_extract, ByteArray.data_extract]
  apply Array.ext
  · rw [Array.size_extract, Array.size_extract, h1, h2]
    omega
  · intro i a b
    rw [Array.size_extract, h1] at a
    rw [Array.size_extract, h2] at b
    rw [Array.getElem_extract, Array.getElem_extract, bu_get, bu_get, Nat.add_assoc, Nat.add_assoc]
    exact h.eq _
theorem Alike.one {u u' : ByteArray} {o o' n : Nat} (h : Alike u u' o o' n) (f : Nat) (l l' : List Tk) (ho : opens l.getLast? (o + f) = opens l'.getLast? (o' + f)) {y : Tk} (hy : oneN u' (o' + f) l' = .ok y) (hl : l.length ≠ 1000) :
    oneN u (o + f) l = .ok (y.sh o o') ∧ o' + f = y.a ∧ ∃ d, y.b = o' + d := by
  unfold oneN at hy ⊢
  rcases h.headN f _ _ ho with ⟨_, h2⟩ | ⟨K, j, j', h2, h3, h4⟩
  · rw [h2] at hy; cases hy
  · rw [h3] at hy
    rw [h2]
    dsimp only at hy ⊢
    rw [if_neg hl]
    split at hy
    · cases hy
    · rw [h.bn f]
      split at hy
      · rename_i h39
        rw [if_pos h39]
        rcases h.quoN f (f + 1) [] with ⟨t, p, h5, h6⟩ | ⟨p, e, h5, h6⟩
        · rw [← Nat.add_assoc] at h5 h6
          rw [h6] at hy
          rw [h5]
          injection hy with hy
          subst hy
          refine ⟨?_, rfl, p, rfl⟩
          simp only [Tk.sh, Nat.add_sub_cancel_left]
          rw [Nat.add_comm f o, Nat.add_comm p o]
        · rw [← Nat.add_assoc] at h6
          rw [h6] at hy
          cases hy
      · rename_i h39
        rw [if_neg h39]
        injection hy with hy
        subst hy
        obtain ⟨d, rfl, rfl⟩ := h4 (by simpa using h39)
        refine ⟨?_, rfl, d, rfl⟩
        simp only [Tk.sh, Nat.add_sub_cancel_left]
        rw [h.extract f d, Nat.add_comm f o, Nat.add_comm d o]
/-- The rest of a text, lexed in another one. -/
theorem Alike.toks {u u' : ByteArray} {o o' n : Nat} (h : Alike u u' o o' n) : ∀ (m k : Nat) (l l' r : List Tk), n - k ≤ m → k ≤ n → (∀ f, k ≤ f → opens l.getLast? (o + f) = opens l'.getLast? (o' + f)) → toksN u' (o' + k) l' = .ok r →
    ∃ x, r = l' ++ x ∧ (∀ y ∈ x, o' ≤ y.a ∧ o' ≤ y.b) ∧ (l.length + x.length ≤ 1000 → toksN u (o + k) l = .ok (l ++ x.map (Tk.sh o o')))
  | m, k, l, l', r, hm, hk, ho, ht => by
    have h1 := h.su
    have h2 := h.su'
    by_cases hkn : k < n
    · rw [toksN_one (by omega)] at ht
      obtain ⟨d, b, h3, h4, h5⟩ := h.betN k
      have hge := betN_ge (s := u') (j := o' + k) (by omega)
      rw [h4] at ht hge
      dsimp only at hge
      cases b with
      | false => cases ht
      | true =>
        dsimp only at ht
        by_cases hd : d = n
        · rw [if_pos (by omega)] at ht
          injection ht with ht
          subst ht
          refine ⟨[], by simp, by simp, fun _ => ?_⟩
          rw [toksN_one (by omega), h3]
          dsimp only
          rw [if_pos (by omega)]
          simp
        · rw [if_neg (by omega)] at ht
          cases hy : oneN u' (o' + d) l' with
          | bad p e => rw [hy] at ht; cases ht
          | ok y =>
            rw [hy] at ht
            dsimp only at ht
            have hok := oneN_ok hy (by omega)
            by_cases hl : l.length = 1000
            · obtain ⟨c, hc⟩ : ∃ c, y.b = o' + c := ⟨y.b - o', by omega⟩
              match m, hm with
              | 0, hm => omega
              | m + 1, hm =>
                rw [hc] at ht
                obtain ⟨x, rfl, h7, h8⟩ := h.toks m c (l ++ [y.sh o o']) (l' ++ [y]) r (by omega) (by omega) (by
                  intro f hf
                  simp only [List.getLast?_append, List.getLast?_singleton, Option.some_or, opens, Tk.sh]
                  congr 1
                  rw [hc]
                  apply Bool.eq_iff_iff.2
                  simp only [beq_iff_eq]
                  omega) ht
                refine ⟨y :: x, by simp, ?_, fun hh => ?_⟩
                · intro z hz
                  rcases List.mem_cons.1 hz with rfl | hz
                  · omega
                  · exact h7 z hz
                · simp at hh; omega
            · obtain ⟨h6, ha, c, hc⟩ := h.one d l l' (ho d h5) hy hl
              match m, hm with
              | 0, hm => omega
              | m + 1, hm =>
                rw [hc] at ht
                obtain ⟨x, rfl, h7, h8⟩ := h.toks m c (l ++ [y.sh o o']) (l' ++ [y]) r (by omega) (by omega) (by
                  intro f hf
                  simp only [List.getLast?_append, List.getLast?_singleton, Option.some_or, opens, Tk.sh]
                  congr 1
                  rw [hc]
                  apply Bool.eq_iff_iff.2
                  simp only [beq_iff_eq]
                  omega) ht
                refine ⟨y :: x, by simp, ?_, fun hh => ?_⟩
                · intro z hz
                  rcases List.mem_cons.1 hz with rfl | hz
                  · omega
                  · exact h7 z hz
                · rw [toksN_one (by omega), h3]
                  dsimp only
                  rw [if_neg (by omega), h6]
                  dsimp only
                  have hb : (y.sh o o').b = o + c := by simp only [Tk.sh]; omega
                  rw [hb, h8 (by simp at hh ⊢; omega)]
                  simp
    · have hkk : k = n := by omega
      subst hkk
      rw [toksN_end (by omega)] at ht
      injection ht with ht
      subst ht
      exact ⟨[], by simp, by simp, fun _ => by rw [toksN_end (by omega)]; simp⟩

/-- A text that stands ahead of a blank. -/
structure Ahead0 (s u : ByteArray) : Prop where
  lt : s.size < u.size
  eq : ∀ i, i < s.size → bu u i = bu s i
  blk : blankB (bn u s.size) = true
/-- The same, where a comment at its end does not matter. -/
structure Ahead (s u : ByteArray) : Prop extends Ahead0 s u where
  line : betN u (lineN u s.size) = betN u s.size
theorem Ahead0.bn {s u : ByteArray} (h : Ahead0 s u) {i : Nat} (hi : i < s.size) : bn u i = bn s i := by rw [bn_bu, bn_bu, h.eq i hi]
theorem blank_cases {c : Int} (h : blankB c = true) : c = 32 ∨ c = 9 ∨ c = 10 ∨ c = 13 := by
  simp only [blankB, Bool.or_eq_true, beq_iff_eq] at h
  omega
theorem kind_blank {k c : Int} (h : blankB c = true) : kindB k c = false := by
  have hk : ∀ c : Int, (c = 32 ∨ c = 9 ∨ c = 10 ∨ c = 13) → namedB c = false ∧ digitB c = false ∧ signB c = false := by
    rintro c (rfl | rfl | rfl | rfl) <;> exact ⟨by decide, by decide, by decide⟩
  obtain ⟨h1, h2, h3⟩ := hk c (blank_cases h)
  simp [kindB, h1, h2, h3]
theorem Ahead0.two {s u : ByteArray} (h : Ahead0 s u) {i : Nat} (hi : i < s.size) {a b : Int} (hb : blankB b = false) : twoB u i a b = twoB s i a b := by
  have hlt := h.lt
  unfold twoB
  rw [h.bn hi]
  by_cases h1 : i + 1 < s.size
  · rw [h.bn h1, decide_eq_true h1, decide_eq_true (by omega : i + 1 < u.size)]
  · have h2 : i + 1 = s.size := by omega
    rw [decide_eq_false h1, h2]
    have h3 : (((Go.Proofs.YtiefbdblefliaaaDoor.bn u s.size : Nat) : Int) == b) = false := by
      apply Bool.eq_false_iff.2
      intro h4
      have h5 : ((Go.Proofs.YtiefbdblefliaaaDoor.bn u s.size : Nat) : Int) = b := by simpa using h4
      have := h.blk
      rw [h5, hb] at this
      cases this
    rw [h3]
    simp
theorem Ahead0.runN {s u : ByteArray} (h : Ahead0 s u) (k : Int) : ∀ (m j : Nat), s.size - j ≤ m → j ≤ s.size → runN k u j = Go.Proofs.YtiefbdblefliaaaDoor.runN k s j
  | m, j, hm, hj => by
    have hlt := h.lt
    by_cases hjs : j < s.size
    · cases hk : kindB k (Go.Proofs.YtiefbdblefliaaaDoor.bn s j)
      · rw [runN_stop hk, runN_stop (by rw [h.bn hjs]; exact hk)]
      · rw [runN_step hjs hk, runN_step (by omega) (by rw [h.bn hjs]; exact hk)]
        match m, hm with
        | 0, hm => omega
        | m + 1, hm => exact h.runN k m (j + 1) (by omega) (by omega)
    · have : j = s.size := by omega
      subst this
      rw [runN_end (Nat.le_refl _), runN_stop (kind_blank h.blk)]
theorem Ahead0.lineN {s u : ByteArray} (h : Ahead0 s u) : ∀ (m j : Nat), s.size - j ≤ m → j ≤ s.size → (lineN s j < s.size → lineN u j = Go.Proofs.YtiefbdblefliaaaDoor.lineN s j) ∧ (Go.Proofs.YtiefbdblefliaaaDoor.lineN s j = s.size → Go.Proofs.YtiefbdblefliaaaDoor.lineN u j = Go.Proofs.YtiefbdblefliaaaDoor.lineN u s.size)
  | m, j, hm, hj => by
    have hlt := h.lt
    by_cases hjs : j < s.size
    · cases hk : ((Go.Proofs.YtiefbdblefliaaaDoor.bn s j : Int) != 10)
      · rw [lineN_stop hk, lineN_stop (by rw [h.bn hjs]; exact hk)]
        exact ⟨fun _ => rfl, fun hh => by omega⟩
      · rw [lineN_step hjs hk, lineN_step (s := u) (j := j) (by omega) (by rw [h.bn hjs]; exact hk)]
        match m, hm with
        | 0, hm => omega
        | m + 1, hm => exact h.lineN m (j + 1) (by omega) (by omega)
    · have : j = s.size := by omega
      subst this
      refine ⟨fun hh => ?_, fun _ => rfl⟩
      rw [lineN_end (Nat.le_refl _)] at hh
      omega
theorem Ahead0.endN {s u : ByteArray} (h : Ahead0 s u) : ∀ (m j : Nat), s.size - j ≤ m → endN s j < s.size → endN u j = Go.Proofs.YtiefbdblefliaaaDoor.endN s j
  | m, j, hm, he => by
    have hlt := h.lt
    by_cases hjs : j < s.size
    · cases hk : twoB s j 42 47
      · rw [endN_step hjs hk] at he ⊢
        rw [endN_step (by omega) (by rw [h.two hjs (by decide)]; exact hk)]
        match m, hm with
        | 0, hm => omega
        | m + 1, hm => exact h.endN m (j + 1) (by omega) he
      · rw [endN_stop hk, endN_stop (by rw [h.two hjs (by decide)]; exact hk)]
    · rw [endN_end (by omega)] at he
      omega
theorem Ahead.betN {s u : ByteArray} (h : Ahead s u) : ∀ (m j f : Nat), s.size - j ≤ m → j ≤ s.size → betN s j = (f, true) → (f < s.size → betN u j = (f, true)) ∧ (f = s.size → Go.Proofs.YtiefbdblefliaaaDoor.betN u j = Go.Proofs.YtiefbdblefliaaaDoor.betN u s.size)
  | m, j, f, hm, hj, hb => by
    have hlt := h.lt
    by_cases hjs : j < s.size
    · rw [betN_eq hjs] at hb
      rw [betN_eq (s := u) (j := j) (by omega), h.bn hjs, h.two hjs (by decide)]
      split at hb
      · rename_i h1
        rw [if_pos h1]
        match m, hm with
        | 0, hm => omega
        | m + 1, hm => exact h.betN m (j + 1) f (by omega) (by omega) hb
      · rename_i h1
        rw [if_neg h1]
        split at hb
        · rename_i h2
          rw [if_pos h2]
          have hg := line_gt hjs h2
          have hle := lineN_le (s := s) (j := j) hj
          have hl := h.lineN _ j (Nat.le_refl _) hj
          by_cases hls : Go.Proofs.YtiefbdblefliaaaDoor.lineN s j < s.size
          · rw [hl.1 hls]
            match m, hm with
            | 0, hm => omega
            | m + 1, hm => exact h.betN m _ f (by omega) (by omega) hb
          · have hls' : Go.Proofs.YtiefbdblefliaaaDoor.lineN s j = s.size := by omega
            rw [hls', betN_end (Nat.le_refl _)] at hb
            injection hb with hb _
            rw [hl.2 hls']
            exact ⟨fun hh => by omega, fun _ => h.line⟩
        · rename_i h2
          rw [if_neg h2]
          split at hb
          · rename_i h3
            rw [if_pos h3]
            split at hb
            · rename_i h4
              have h5 := h.endN _ (j + 2) (Nat.le_refl _) h4
              have h6 := endN_ge s (j + 2)
              have h7 := twoB_lt (endN_two h4)
              rw [h5, if_pos (by omega)]
              match m, hm with
              | 0, hm => omega
              | m + 1, hm => exact h.betN m _ f (by omega) (by omega) hb
            · injection hb with _ hb; cases hb
          · rename_i h3
            rw [if_neg h3]
            injection hb with hb _
            subst hb
            exact ⟨fun _ => rfl, fun hh => by omega⟩
    · have hjj : j = s.size := by omega
      subst hjj
      rw [betN_end (Nat.le_refl _)] at hb
      injection hb with hb _
      exact ⟨fun hh => by omega, fun _ => rfl⟩
theorem Ahead0.quoN {s u : ByteArray} (h : Ahead0 s u) (i : Nat) (t : List UInt8) (p : Nat) : ∀ (m k : Nat) (b : List UInt8), s.size - k ≤ m → quoN s i k b = .ok t p → quoN u i k b = .ok t p
  | m, k, b, hm, hq => by
    have hlt := h.lt
    by_cases hks : k < s.size
    · rw [quoN_eq hks] at hq
      rw [quoN_eq (s := u) (by omega), h.bn hks, h.two hks (by decide), h.eq k hks]
      split at hq
      · rename_i h1
        rw [if_pos h1]
        match m, hm with
        | 0, hm => omega
        | m + 1, hm => exact h.quoN i t p m _ _ (by omega) hq
      · rename_i h1
        rw [if_neg h1]
        split at hq
        · rename_i h2
          rw [if_pos h2]
          exact hq
        · rename_i h2
          rw [if_neg h2]
          split at hq
          · rename_i h3
            rw [if_pos h3]
            split at hq
            · cases hq
            · rename_i h4
              have h5 : k + 1 < s.size := by omega
              rw [if_neg (by omega), h.bn h5, h.eq _ h5]
              split at hq
              · rename_i h6
                rw [if_pos h6]
                match m, hm with
                | 0, hm => omega
                | m + 1, hm => exact h.quoN i t p m _ _ (by omega) hq
              · rename_i h6
                rw [if_neg h6]
                split at hq
                · rename_i h7
                  rw [if_pos h7]
                  match m, hm with
                  | 0, hm => omega
                  | m + 1, hm => exact h.quoN i t p m _ _ (by omega) hq
                · rename_i h7
                  rw [if_neg h7]
                  split at hq
                  · rename_i h8
                    rw [if_pos h8]
                    match m, hm with
                    | 0, hm => omega
                    | m + 1, hm => exact h.quoN i t p m _ _ (by omega) hq
                  · cases hq
          · rename_i h3
            rw [if_neg h3]
            split at hq
            · cases hq
            · rename_i h4
              rw [if_neg h4]
              match m, hm with
              | 0, hm => omega
              | m + 1, hm => exact h.quoN i t p m _ _ (by omega) hq
    · rw [quoN_end (by omega)] at hq
      cases hq
theorem Ahead0.headN {s u : ByteArray} (h : Ahead0 s u) {f : Nat} (hf : f < s.size) (q : Option Tk) : headN u f q = Go.Proofs.YtiefbdblefliaaaDoor.headN s f q := by
  have hlt := h.lt
  have e : (decide (f + 1 = u.size) || blankB (Go.Proofs.YtiefbdblefliaaaDoor.bn u (f + 1)) || (Go.Proofs.YtiefbdblefliaaaDoor.bn u (f + 1) : Int) == 37) = (decide (f + 1 = s.size) || blankB (Go.Proofs.YtiefbdblefliaaaDoor.bn s (f + 1)) || (Go.Proofs.YtiefbdblefliaaaDoor.bn s (f + 1) : Int) == 37) := by
    by_cases h1 : f + 1 = s.size
    · rw [decide_eq_true h1, h1, h.blk]
      simp
    · rw [h.bn (by omega : f + 1 < s.size), decide_eq_false h1, decide_eq_false (by omega : ¬ f + 1 = u.size)]
  unfold Go.Proofs.YtiefbdblefliaaaDoor.headN
  rw [e, h.bn hf, h.runN 1 _ f (Nat.le_refl _) (by omega), h.runN 2 _ f (Nat.le_refl _) (by omega), h.runN 3 _ f (Nat.le_refl _) (by omega)]
theorem Ahead0.extract {s u : ByteArray} (h : Ahead0 s u) (f d : Nat) (hd : d ≤ s.size) : u.extract f d = s.extract f d := by
  have h1 : s.data.size < u.data.size := h.lt
  have hd' : d ≤ s.data.size := hd
  apply ByteArray.ext
  rw [ByteArray.data_extract, ByteArray.data_extract]
  apply Array.ext
  · rw [Array.size_extract, Array.size_extract]
    omega
  · intro i a b
    rw [Array.size_extract] at a b
    rw [Array.getElem_extract, Array.getElem_extract, bu_get, bu_get]
    exact h.eq _ (by show f + i < s.data.size; omega)
theorem Ahead0.one {s u : ByteArray} (h : Ahead0 s u) {f : Nat} (hf : f < s.size) {l : List Tk} {x : Tk} (hx : oneN s f l = .ok x) : oneN u f l = .ok x := by
  unfold oneN at hx ⊢
  rw [h.headN hf]
  cases hh : Go.Proofs.YtiefbdblefliaaaDoor.headN s f l.getLast? with
  | none => rw [hh] at hx; cases hx
  | some q =>
    obtain ⟨K, j⟩ := q
    rw [hh] at hx
    dsimp only at hx ⊢
    split at hx
    · cases hx
    · rename_i hl
      rw [if_neg hl, h.bn hf]
      split at hx
      · rename_i h39
        rw [if_pos h39]
        cases hq : Go.Proofs.YtiefbdblefliaaaDoor.quoN s f (f + 1) [] with
        | ok t p =>
          rw [hq] at hx
          rw [h.quoN f t p _ _ _ (Nat.le_refl _) hq]
          exact hx
        | bad p e => rw [hq] at hx; cases hx
      · rename_i h39
        rw [if_neg h39]
        have := headN_ok hh hf (by simpa using h39)
        rw [h.extract f j this.2.2.2]
        exact hx
theorem bet_toks {u : ByteArray} {j j' : Nat} (hj : j < u.size) (hj' : j' ≤ u.size) (h : betN u j = betN u j') (l : List Tk) : toksN u j l = toksN u j' l := by
  by_cases h1 : j' < u.size
  · rw [toksN_one hj, toksN_one h1, h]
  · rw [toksN_end (k := j') (by omega), toksN_one hj, h, betN_end (by omega)]
    dsimp only
    rw [if_pos (by omega)]
/-- A text that stands ahead of a blank: what comes behind it is lexed with its tokens ahead. -/
theorem Ahead.toks {s u : ByteArray} (h : Ahead s u) : ∀ (m k : Nat) (l r : List Tk), s.size - k ≤ m → k ≤ s.size → toksN s k l = .ok r → toksN u k l = toksN u s.size r
  | m, k, l, r, hm, hk, ht => by
    have hlt := h.lt
    by_cases hks : k < s.size
    · rw [toksN_one hks] at ht
      cases hbe : Go.Proofs.YtiefbdblefliaaaDoor.betN s k with
      | mk f b =>
        rw [hbe] at ht
        have hge := betN_ge (s := s) (j := k) (by omega)
        rw [hbe] at hge
        dsimp only at hge
        cases b with
        | false => cases ht
        | true =>
          dsimp only at ht
          have hb := h.betN _ k f (Nat.le_refl _) hk hbe
          by_cases hf : f = s.size
          · rw [if_pos hf] at ht
            injection ht with ht
            subst ht
            exact bet_toks (by omega) (by omega) (hb.2 hf) l
          · rw [if_neg hf] at ht
            cases ho : oneN s f l with
            | bad p e => rw [ho] at ht; cases ht
            | ok x =>
              rw [ho] at ht
              have hx := oneN_ok ho (by omega)
              rw [toksN_one (s := u) (k := k) (by omega), hb.1 (by omega)]
              dsimp only
              rw [if_neg (by omega), h.one (by omega) ho]
              match m, hm with
              | 0, hm => omega
              | m + 1, hm => exact h.toks m x.b _ r (by omega) (by omega) ht
    · have hkk : k = s.size := by omega
      subst hkk
      rw [toksN_end (Nat.le_refl _)] at ht
      injection ht with ht
      subst ht
      rfl
theorem lex_toks {s : ByteArray} {r : List Tk} (h : lexN s = .ok r) : toksN s 0 [] = .ok r ∧ s.size ≤ 4096 := by
  unfold lexN at h
  split at h
  · cases h
  · exact ⟨h, by omega⟩
theorem toks_lex {s : ByteArray} {r : List Tk} (h : toksN s 0 [] = .ok r) (hs : s.size ≤ 4096) : lexN s = .ok r := by
  unfold lexN
  rw [if_neg (by omega)]
  exact h
/-- The last token of a text ends ahead of its end: none opens a bracket behind it. -/
theorem lex_last {s : ByteArray} {r : List Tk} (h : lexN s = .ok r) {f : Nat} (hf : s.size < f) : opens r.getLast? f = false := by
  have h1 := (lexN_ok h).2.2
  cases hr : r.getLast? with
  | none => rfl
  | some x =>
    have hx := h1 x (List.mem_of_getLast? hr)
    have := hx.2.2.2.2
    simp only [opens]
    have : (x.b == f) = false := by
      apply Bool.eq_false_iff.2
      intro h
      have : x.b = f := by simpa using h
      omega
    rw [this, Bool.and_false]
/-- A text with a blank behind it and another one: both's tokens. -/
theorem lex_join {s t u : ByteArray} {a b : List Tk} (ha : lexN s = .ok a) (hb : lexN t = .ok b) (hA : Ahead s u) (hS : Alike u t (s.size + 1) 0 t.size) (hn : a.length + b.length ≤ 1000) (hu : u.size ≤ 4096) :
    lexN u = .ok (a ++ b.map (Tk.sh (s.size + 1) 0)) := by
  obtain ⟨h1, _⟩ := lex_toks ha
  obtain ⟨h2, _⟩ := lex_toks hb
  have hsu := hS.su
  refine toks_lex ?_ hu
  rw [hA.toks _ 0 [] a (Nat.le_refl _) (Nat.zero_le _) h1]
  have h3 : betN u s.size = betN u (s.size + 1) := by rw [betN_eq hA.lt, if_pos hA.blk]
  rw [bet_toks hA.lt (by omega) h3]
  obtain ⟨x, hx, _, h5⟩ := hS.toks _ 0 a [] b (Nat.le_refl _) (Nat.zero_le _) (fun f _ => by rw [lex_last ha (by omega)]; rfl) h2
  rw [List.nil_append] at hx
  subst hx
  exact h5 hn
theorem bu_append (a b : ByteArray) (i : Nat) : bu (a ++ b) i = if i < a.size then bu a i else bu b (i - a.size) := by
  obtain ⟨⟨a⟩⟩ := a
  obtain ⟨⟨b⟩⟩ := b
  simp only [bu, ByteArray.data_append, List.append_toArray, List.getD_eq_getElem?_getD]
  have : (ByteArray.mk ⟨a⟩).size = a.length := rfl
  rw [this]
  split
  · rename_i h; rw [List.getElem?_append_left h]
  · rename_i h; rw [List.getElem?_append_right (by omega)]
end Go.Proofs.YtiefbdblefliaaaDoor
namespace Go.Proofs.YtiefbdblefliaaaDoor

theorem list_len (s : ByteArray) : s.data.toList.length = s.size := by rw [Array.length_toList]; rfl
theorem list_extract (s : ByteArray) (a b : Nat) : (s.extract a b).data.toList = (s.data.toList.drop a).take (b - a) := by
  rw [ByteArray.data_extract, Array.toList_extract]
theorem list_rest (s : ByteArray) (a : Nat) : (s.extract a s.size).data.toList = s.data.toList.drop a := by
  rw [list_extract]
  apply List.take_of_length_le
  rw [List.length_drop, list_len]
  omega
theorem list_at (s : ByteArray) {i : Nat} (h : i < s.size) : s.data.toList[i]? = some (bu s i) := by
  unfold bu
  rw [List.getD_eq_getElem?_getD, List.getElem?_eq_getElem (by rw [list_len]; exact h)]
  rfl
theorem list_no (s : ByteArray) {i : Nat} (h : s.size ≤ i) : s.data.toList[i]? = none := List.getElem?_eq_none (by rw [list_len]; exact h)
theorem bn_extract (s : ByteArray) (a b : Nat) {i : Nat} (h : a + i < b) : bn (s.extract a b) i = bn s (a + i) := by
  unfold bn
  rw [list_extract, List.getD_eq_getElem?_getD, List.getD_eq_getElem?_getD, List.getElem?_take, if_pos (by omega), List.getElem?_drop]
theorem pre_two (s : ByteArray) (p : Nat) (a b : UInt8) : List.isPrefixOf [a, b] (s.data.toList.drop p) = twoB s p a.toNat b.toNat := by
  have h0 := List.getElem?_drop (xs := s.data.toList) (i := p) (j := 0)
  have h1 := List.getElem?_drop (xs := s.data.toList) (i := p) (j := 1)
  unfold twoB
  by_cases hp : p + 1 < s.size
  · rw [list_at s (by omega)] at h0
    rw [list_at s hp] at h1
    match hd : s.data.toList.drop p, h0, h1 with
    | x :: y :: l, h0, h1 =>
      simp at h0 h1
      subst h0; subst h1
      have e : ∀ (u v : UInt8), (u == v) = (((v.toNat : Nat) : Int) == ((u.toNat : Nat) : Int)) := fun u v => by
        rw [Bool.eq_iff_iff, beq_iff_eq, beq_iff_eq]
        exact ⟨fun h => by rw [h], fun h => UInt8.toNat_inj.1 (by omega)⟩
      simp only [List.isPrefixOf, decide_eq_true hp, Bool.true_and, Bool.and_true, bn_bu]
      rw [e, e]
  · rw [decide_eq_false hp]
    rw [list_no s (by omega)] at h1
    match hd : s.data.toList.drop p, h1 with
    | [], _ => rfl
    | [x], _ => simp [List.isPrefixOf]
theorem has_two (s : ByteArray) (p : Nat) (a b : UInt8) : Lib.hasPrefix (s.extract p s.size).data.toList [a, b] = twoB s p a.toNat b.toNat := by
  unfold Lib.hasPrefix
  rw [list_rest, pre_two]
theorem line_at (s : ByteArray) : ∀ (n j : Nat), j + n ≤ s.size → (∀ x, x < n → ((bn s (j + x) : Int) != 10) = true) → (j + n = s.size ∨ ((bn s (j + n) : Int) != 10) = false) → lineN s j = j + n
  | 0, j, _, _, h => by
    rcases h with h | h
    · exact lineN_end (by omega)
    · exact lineN_stop h
  | n + 1, j, hl, hx, h => by
    rw [lineN_step (by omega) (by have := hx 0 (by omega); simpa using this), line_at s n (j + 1) (by omega) (fun x hx' => by have := hx (x + 1) (by omega); rwa [show j + (x + 1) = j + 1 + x by omega] at this) (by rcases h with h | h; exact .inl (by omega); exact .inr (by rwa [show j + (n + 1) = j + 1 + n by omega] at h))]
    omega
theorem end_at (s : ByteArray) : ∀ (n j : Nat), j + n ≤ s.size → (∀ x, x < n → twoB s (j + x) 42 47 = false) → (j + n = s.size ∨ twoB s (j + n) 42 47 = true) → endN s j = j + n
  | 0, j, _, _, h => by
    rcases h with h | h
    · exact endN_end (by omega)
    · exact endN_stop h
  | n + 1, j, hl, hx, h => by
    rw [endN_step (by omega) (by have := hx 0 (by omega); simpa using this), end_at s n (j + 1) (by omega) (fun x hx' => by have := hx (x + 1) (by omega); rwa [show j + (x + 1) = j + 1 + x by omega] at this) (by rcases h with h | h; exact .inl (by omega); exact .inr (by rwa [show j + (n + 1) = j + 1 + n by omega] at h))]
    omega
theorem ne10 (c : UInt8) : (((c.toNat : Nat) : Int) != 10) = true ↔ c ≠ 10 := by
  rw [bne_iff_ne]
  constructor
  · rintro h rfl; exact h rfl
  · intro h e
    exact h (UInt8.toNat_inj.1 (by have : (10 : UInt8).toNat = 10 := rfl; omega))
/-- strings.IndexByte(rest, 10). -/
theorem idx_line (s : ByteArray) (j : Nat) (hj : j ≤ s.size) : (Lib.indexByte (s.extract j s.size).data.toList 10 < 0 ∧ lineN s j = s.size) ∨ ∃ n : Nat, Lib.indexByte (s.extract j s.size).data.toList 10 = (n : Int) ∧ lineN s j = j + n ∧ j + n < s.size := by
  rw [list_rest]
  have hge := Lib.indexByte_ge (s.data.toList.drop j) 10
  rcases Int.lt_or_le (Lib.indexByte (s.data.toList.drop j) 10) 0 with h | h
  · refine .inl ⟨h, ?_⟩
    have hn := Lib.indexByte_none (l := s.data.toList.drop j) (c := 10) (by omega)
    have := line_at s (s.size - j) j (by omega) (fun x hx => by
      have h1 := hn x
      rw [List.getElem?_drop, list_at s (by omega)] at h1
      rw [bn_bu, ne10]
      exact fun e => h1 (by rw [e])) (.inl (by omega))
    omega
  · obtain ⟨n, hn⟩ : ∃ n : Nat, Lib.indexByte (s.data.toList.drop j) 10 = (n : Int) := ⟨_, (Int.toNat_of_nonneg h).symm⟩
    obtain ⟨h1, h2⟩ := Lib.indexByte_some hn
    rw [List.getElem?_drop] at h1
    have hlt : j + n < s.size := by
      rcases Nat.lt_or_ge (j + n) s.size with h3 | h3
      · exact h3
      · rw [list_no s h3] at h1; cases h1
    refine .inr ⟨n, hn, line_at s n j (by omega) (fun x hx => ?_) (.inr ?_), hlt⟩
    · have h3 := h2 x hx
      rw [List.getElem?_drop, list_at s (by omega)] at h3
      rw [bn_bu, ne10]
      exact fun e => h3 (by rw [e])
    · rw [list_at s hlt] at h1
      injection h1 with h1
      rw [bn_bu, h1]
      rfl
/-- strings.Index(rest[2:], "*/"). -/
theorem idx_end (s : ByteArray) (j : Nat) (hj : j ≤ s.size) : (Lib.index (s.extract j s.size).data.toList [42, 47] < 0 ∧ endN s j = s.size) ∨ ∃ n : Nat, Lib.index (s.extract j s.size).data.toList [42, 47] = (n : Int) ∧ endN s j = j + n ∧ j + n < s.size := by
  rw [list_rest]
  have ho : ∀ x, Lib.occAt (s.data.toList.drop j) [42, 47] x = twoB s (j + x) 42 47 := fun x => by
    unfold Lib.occAt
    rw [List.drop_drop]
    exact pre_two s (j + x) 42 47
  rcases Lib.index_spec (s.data.toList.drop j) [42, 47] with ⟨h1, h2⟩ | ⟨n, h1, h2, h3, h4⟩
  · refine .inl ⟨by omega, ?_⟩
    have := end_at s (s.size - j) j (by omega) (fun x hx => by rw [← ho]; exact h2 x (by rw [List.length_drop, list_len]; omega)) (.inl (by omega))
    omega
  · rw [ho] at h3
    have hlt := twoB_lt h3
    exact .inr ⟨n, h1, end_at s n j (by omega) (fun x hx => by rw [← ho]; exact h4 x hx) (.inr h3), by omega⟩
end Go.Proofs.YtiefbdblefliaaaDoor
namespace Go.Proofs.YtiefbdblefliaaaDoor

/-- One byte within quotes. -/
def esc1 (c : UInt8) : Option (List UInt8) :=
  if c = 10 then some [92, 110] else if c = 9 then some [92, 116] else if c = 92 ∨ c = 39 then some [92, c]
  else if c.toNat < 32 ∨ 126 < c.toNat then none else some [c]
def escN : List UInt8 → Option (List UInt8)
  | [] => some []
  | c :: l => match esc1 c, escN l with
    | some x, some y => some (x ++ y)
    | _, _ => none
/-- Does a name stand without quotes? -/
def plainN (s : ByteArray) : Bool := decide (0 < s.size) &&
  (if smallB (bn s 0) then decide (runN 1 s 0 = s.size)
   else if signB (bn s 0) then !(decide (s.size = 1) && (bn s 0 : Int) == 46) && !(twoB s 0 47 42) && decide (runN 3 s 0 = s.size)
   else ((bn s 0 : Int) == 33 || (bn s 0 : Int) == 59) && decide (s.size = 1))
/-- What a quoted text is. -/
def quotedN (l : List UInt8) : ByteArray := ⟨(39 :: (l ++ [39])).toArray⟩
def quoteN (s : ByteArray) : ByteArray := if plainN s then s else match escN s.data.toList with
  | some l => quotedN l
  | none => ⟨#[]⟩
theorem escN_snoc : ∀ (l : List UInt8) (c : UInt8), escN (l ++ [c]) = match escN l, esc1 c with
    | some x, some y => some (x ++ y)
    | _, _ => none
  | [], c => by
    simp only [List.nil_append, escN]
    cases esc1 c <;> simp
  | a :: l, c => by
    simp only [List.cons_append, escN, escN_snoc l c]
    cases esc1 a <;> cases escN l <;> cases esc1 c <;> simp
theorem escN_none : ∀ (l r : List UInt8), escN l = none → escN (l ++ r) = none
  | [], _, h => by cases h
  | a :: l, r, h => by
    simp only [List.cons_append, escN] at h ⊢
    cases ha : esc1 a with
    | none => rfl
    | some x =>
      cases hl : escN l with
      | none => rw [escN_none l r hl]
      | some y => rw [ha, hl] at h; cases h
theorem esc1_len {c : UInt8} {x : List UInt8} (h : esc1 c = some x) : x.length ≤ 2 := by
  unfold esc1 at h
  repeat' split at h
  all_goals first | (injection h with h; subst h; simp) | cases h
theorem escN_len : ∀ (l x : List UInt8), escN l = some x → x.length ≤ 2 * l.length
  | [], x, h => by injection h with h; subst h; simp
  | a :: l, x, h => by
    simp only [escN] at h
    cases ha : esc1 a with
    | none => rw [ha] at h; cases h
    | some y =>
      cases hl : escN l with
      | none => rw [ha, hl] at h; cases h
      | some z =>
        rw [ha, hl] at h
        injection h with h
        subst h
        have := esc1_len ha
        have := escN_len l z hl
        simp
        omega
theorem take_succ (s : ByteArray) {k : Nat} (hk : k < s.size) : s.data.toList.take (k + 1) = s.data.toList.take k ++ [bu s k] := by
  have h : k < s.data.toList.length := by rw [list_len]; exact hk
  rw [List.take_succ_eq_append_getElem h]
  congr 2
  have := list_at s hk
  rw [List.getElem?_eq_getElem h] at this
  injection this
/-- The bytes of a text that is told as a list. -/
theorem bu_list (a b : List UInt8) (j : Nat) : bu ⟨(a ++ b).toArray⟩ (a.length + j) = b.getD j 0 := by
  simp only [bu, List.getD_eq_getElem?_getD]
  rw [List.getElem?_append_right (by omega), Nat.add_sub_cancel_left]
theorem bu_mk (l : List UInt8) (j : Nat) : bu ⟨l.toArray⟩ j = l.getD j 0 := rfl
theorem bn_val {s : ByteArray} {i : Nat} {c : UInt8} (h : bu s i = c) : (bn s i : Int) = (c.toNat : Int) := by rw [bn_bu, h]
theorem byte_eq (c d : UInt8) : (((c.toNat : Nat) : Int) == ((d.toNat : Nat) : Int)) = decide (c = d) := by
  rw [Bool.eq_iff_iff, beq_iff_eq, decide_eq_true_eq]
  exact ⟨fun h => UInt8.toNat_inj.1 (by omega), fun h => by rw [h]⟩
/-- The scan of a quoted text: from within it to its end. -/
theorem quo_esc (i : Nat) : ∀ (r x pre b : List UInt8), escN r = some x → quoN ⟨(pre ++ (x ++ [39])).toArray⟩ i pre.length b = .ok (b ++ r) (pre.length + x.length + 1)
  | [], x, pre, b, h => by
    injection h with h
    subst h
    have hs : (ByteArray.mk (pre ++ ([] ++ [39])).toArray).size = pre.length + 1 := by show (pre ++ ([] ++ [39])).length = _; simp
    have h0 := bu_list pre ([] ++ [39]) 0
    rw [Nat.add_zero] at h0
    have h1 : (bn ⟨(pre ++ ([] ++ [39])).toArray⟩ pre.length : Int) = 39 := by rw [bn_bu, h0]; rfl
    have h2 : twoB ⟨(pre ++ ([] ++ [39])).toArray⟩ pre.length 39 39 = false := by unfold twoB; rw [decide_eq_false (by omega)]; simp
    rw [quoN_eq (by omega), h2, h1]
    simp
  | c :: r, x, pre, b, h => by
    simp only [escN] at h
    cases hc : esc1 c with
    | none => rw [hc] at h; cases h
    | some y =>
      cases hr : escN r with
      | none => rw [hc, hr] at h; cases h
      | some z =>
        rw [hc, hr] at h
        injection h with h
        subst h
        have ih := quo_esc i r z (pre ++ y) (b ++ [c]) hr
        have e1 : pre ++ (y ++ z ++ [39]) = pre ++ y ++ (z ++ [39]) := by simp
        have e2 : b ++ [c] ++ r = b ++ c :: r := by simp
        have e3 : pre.length + (y ++ z).length + 1 = (pre ++ y).length + z.length + 1 := by simp; omega
        rw [e3, e1, ← e2, ← ih]
        have hsz : (ByteArray.mk (pre ++ y ++ (z ++ [39])).toArray).size = pre.length + y.length + z.length + 1 := by show (pre ++ y ++ (z ++ [39])).length = _; simp; omega
        have hb : ∀ j, j < y.length → bu ⟨(pre ++ y ++ (z ++ [39])).toArray⟩ (pre.length + j) = y.getD j 0 := fun j hj => by
          rw [← e1, bu_list]
          simp only [List.getD_eq_getElem?_getD, List.append_assoc]
          rw [List.getElem?_append_left hj]
        obtain ⟨u, hu⟩ : ∃ u, u = ByteArray.mk (pre ++ y ++ (z ++ [39])).toArray := ⟨_, rfl⟩
        rw [← hu] at hsz hb ⊢
        rw [List.length_append]
        have two0 : ∀ d : UInt8, d ≠ 39 → bu u pre.length = d → twoB u pre.length 39 39 = false := fun d hd he => by
          unfold twoB
          have : ((bn u pre.length : Int) == 39) = false := by rw [bn_bu, he]; exact (byte_eq d 39).trans (decide_eq_false hd)
          rw [this]; simp
        have pair : ∀ d : UInt8, y = [92, d] → (d = 110 ∧ c = 10 ∨ d = 116 ∧ c = 9 ∨ (d = 92 ∨ d = 39) ∧ c = d) → quoN u i pre.length b = quoN u i (pre.length + y.length) (b ++ [c]) := fun d hy hd => by
          have hl : y.length = 2 := by rw [hy]; rfl
          have h0 := hb 0 (by omega)
          have h1 := hb 1 (by omega)
          rw [hy] at h0 h1
          have h0 : bu u pre.length = 92 := h0
          have h1 : bu u (pre.length + 1) = d := h1
          rw [quoN_eq (by omega), two0 92 (by decide) h0, hl]
          have n0 : (bn u pre.length : Int) = 92 := by rw [bn_bu, h0]; rfl
          have n1 : (bn u (pre.length + 1) : Int) = (d.toNat : Int) := by rw [bn_bu, h1]
          rw [n0, n1, h1]
          simp only [Bool.false_eq_true, if_false]
          rw [if_neg (by decide), if_pos (by decide), if_neg (by omega)]
          rcases hd with ⟨rfl, rfl⟩ | ⟨rfl, rfl⟩ | ⟨rfl | rfl, rfl⟩
          · rw [if_pos (by decide)]
          · rw [if_neg (by decide), if_pos (by decide)]
          · rw [if_neg (by decide), if_neg (by decide), if_pos (by decide)]
          · rw [if_neg (by decide), if_neg (by decide), if_pos (by decide)]
        unfold esc1 at hc
        split at hc
        · rename_i h10
          injection hc with hc
          exact pair 110 hc.symm (.inl ⟨rfl, h10⟩)
        · split at hc
          · rename_i h9
            injection hc with hc
            exact pair 116 hc.symm (.inr (.inl ⟨rfl, h9⟩))
          · split at hc
            · rename_i h9
              injection hc with hc
              exact pair c hc.symm (.inr (.inr ⟨h9, rfl⟩))
            · rename_i h99
              split at hc
              · cases hc
              · rename_i hrange
                injection hc with hc
                have hl : y.length = 1 := by rw [← hc]; rfl
                have h0 := hb 0 (by omega)
                rw [← hc] at h0
                have h0 : bu u pre.length = c := h0
                have n0 : (bn u pre.length : Int) = (c.toNat : Int) := by rw [bn_bu, h0]
                rw [quoN_eq (by omega), two0 c (fun e => h99 (.inr e)) h0, hl, n0, h0]
                have m1 : (((c.toNat : Nat) : Int) == 39) = false := (byte_eq c 39).trans (decide_eq_false fun e => h99 (.inr e))
                have m2 : (((c.toNat : Nat) : Int) == 92) = false := (byte_eq c 92).trans (decide_eq_false fun e => h99 (.inl e))
                rw [m1, m2, decide_eq_false (by omega : ¬ ((c.toNat : Nat) : Int) < 32), decide_eq_false (by omega : ¬ (126 : Int) < ((c.toNat : Nat) : Int))]
                simp
theorem quo_len : ∀ (f : Nat) (s : ByteArray) (i k : Nat) (b t : List UInt8) (p : Nat), quoF f s i k b = .ok t p → t.length + k + 1 ≤ p + b.length
  | 0, _, _, _, _, _, _, h => by unfold quoF at h; cases h
  | f + 1, s, i, k, b, t, p, h => by
    unfold quoF at h
    split at h
    · split at h
      · have := quo_len f s i _ _ t p h; simp at this; omega
      · split at h
        · injection h with h1 h2; subst h1; subst h2; omega
        · split at h
          · split at h
            · cases h
            · split at h
              · have := quo_len f s i _ _ t p h; simp at this; omega
              · split at h
                · have := quo_len f s i _ _ t p h; simp at this; omega
                · split at h
                  · have := quo_len f s i _ _ t p h; simp at this; omega
                  · cases h
          · split at h
            · cases h
            · have := quo_len f s i _ _ t p h; simp at this; omega
    · cases h
theorem headN_quote {s : ByteArray} {f : Nat} {o : Option Tk} (h : (bn s f : Int) = 39) : headN s f o = some (1, 0) := by
  unfold headN
  rw [h]
  have e1 : smallB 39 = false := by decide
  have e2 : greatB 39 = false := by decide
  have e3 : digitB 39 = false := by decide
  have e4 : signB 39 = false := by decide
  rw [e1, e2, e3, e4]
  simp
/-- One token that is the whole text. -/
theorem lex_one {s : ByteArray} {x : Tk} (hb : betN s 0 = (0, true)) (hs : 0 < s.size) (hs2 : s.size ≤ 4096) (ho : oneN s 0 [] = .ok x) (hx : x.b = s.size) : lexN s = .ok [x] := by
  refine toks_lex ?_ hs2
  rw [toksN_one hs, hb]
  dsimp only
  rw [if_neg (by omega), ho]
  dsimp only
  rw [hx, toksN_end (Nat.le_refl _)]
  rfl
theorem bet_none {s : ByteArray} {j : Nat} (h : j < s.size) (h1 : blankB (bn s j) = false) (h2 : ((bn s j : Int) == 37) = false) (h3 : twoB s j 47 42 = false) : betN s j = (j, true) := by
  rw [betN_eq h, h1, h2, h3]
  simp
theorem two_no' {x : List UInt8} (h0 : (bn (quotedN x) 0 : Int) = 39) : twoB (quotedN x) 0 47 42 = false := by
  unfold twoB
  rw [h0]
  simp
theorem lex_quoted {name x : List UInt8} (h : escN name = some x) (hn : x.length ≤ 4000) : lexN (quotedN x) = .ok [⟨1, ⟨name.toArray⟩, 0, (quotedN x).size⟩] := by
  have hs : (quotedN x).size = x.length + 2 := by show (39 :: (x ++ [39])).length = _; simp
  have h0 : (bn (quotedN x) 0 : Int) = 39 := rfl
  have hq := quo_esc 0 name x [39] [] h
  have hq' : quoN (quotedN x) 0 1 [] = .ok name (x.length + 2) := by
    have e : (quotedN x) = ⟨([39] ++ (x ++ [39])).toArray⟩ := rfl
    rw [e]
    have e2 : 1 + x.length + 1 = x.length + 2 := by omega
    rw [← e2]
    exact hq
  refine lex_one (bet_none (by omega) (by rw [h0]; rfl) (by rw [h0]; rfl) (two_no' h0)) (by omega) (by omega) ?_ rfl
  unfold oneN
  rw [headN_quote h0]
  dsimp only
  rw [if_neg (by simp), h0, if_pos (by decide), hq', hs]
theorem bytes_same {a b : ByteArray} (h : a.data.toList = b.data.toList) : a = b := by
  apply ByteArray.ext
  exact Array.toList_inj.1 h
theorem extract_all (s : ByteArray) : s.extract 0 s.size = s := by
  apply bytes_same
  rw [list_rest]
  rfl
theorem sign_facts {c : Int} (h : signB c = true) : smallB c = false ∧ greatB c = false ∧ digitB c = false ∧ blankB c = false ∧ (c == 37) = false ∧ (c == 39) = false := by
  have := signB_iff.1 h
  simp only [List.mem_cons, List.not_mem_nil, or_false] at this
  rcases this with rfl | rfl | rfl | rfl | rfl | rfl | rfl | rfl | rfl | rfl | rfl | rfl | rfl | rfl | rfl | rfl | rfl <;> exact ⟨by decide, by decide, by decide, by decide, by decide, by decide⟩
theorem small_facts {c : Int} (h : smallB c = true) : blankB c = false ∧ (c == 37) = false ∧ (c == 39) = false ∧ (c == 46) = false ∧ (c == 47) = false := by
  simp only [smallB, Bool.and_eq_true, decide_eq_true_eq] at h
  refine ⟨?_, ?_, ?_, ?_, ?_⟩
  · simp only [blankB, Bool.or_eq_false_iff, beq_eq_false_iff_ne]; omega
  all_goals rw [beq_eq_false_iff_ne]; omega
theorem run_all {k : Int} {s : ByteArray} (h : runN k s 0 = s.size) {i : Nat} (hi : i < s.size) : kindB k (bn s i) = true := by
  have key : ∀ (n j : Nat), s.size - j ≤ n → runN k s j = s.size → ∀ i, j ≤ i → i < s.size → kindB k (bn s i) = true := by
    intro n
    induction n with
    | zero => intro j hn _ i h1 h2; omega
    | succ n ih =>
      intro j hn hr i h1 h2
      cases hk : kindB k (bn s j) with
      | false => rw [runN_stop hk] at hr; omega
      | true =>
        rw [runN_step (by omega) hk] at hr
        rcases Nat.eq_or_lt_of_le h1 with rfl | h3
        · exact hk
        · exact ih (j + 1) (by omega) hr i (by omega) h2
  exact key s.size 0 (by omega) h i (Nat.zero_le _) hi
theorem one_plain {s : ByteArray} (h39 : ((bn s 0 : Int) == 39) = false) (hh : headN s 0 none = some (1, s.size)) : oneN s 0 [] = .ok ⟨1, s, 0, s.size⟩ := by
  unfold oneN
  rw [show ([] : List Tk).getLast? = none from rfl, hh]
  dsimp only
  rw [if_neg (by simp), h39, extract_all]
  rfl
theorem lex_plain {s : ByteArray} (h : plainN s = true) (hs2 : s.size ≤ 4096) : lexN s = .ok [⟨1, s, 0, s.size⟩] ∧ ((bn s 0 : Int) == 39) = false := by
  unfold plainN at h
  rw [Bool.and_eq_true, decide_eq_true_eq] at h
  obtain ⟨hs, h⟩ := h
  cases hsm : smallB (bn s 0) with
  | true =>
    rw [hsm, if_pos rfl, decide_eq_true_eq] at h
    obtain ⟨f1, f2, f3, f4, f5⟩ := small_facts hsm
    refine ⟨lex_one (bet_none hs f1 f2 (by unfold twoB; rw [f5]; simp)) hs hs2 (one_plain f3 ?_) rfl, f3⟩
    unfold headN
    rw [f4, hsm, h]
    simp
  | false =>
    rw [hsm] at h
    simp only [Bool.false_eq_true, if_false] at h
    cases hsi : signB (bn s 0) with
    | true =>
      rw [hsi, if_pos rfl, Bool.and_eq_true, Bool.and_eq_true, decide_eq_true_eq] at h
      obtain ⟨⟨hdot, htwo⟩, hrun⟩ := h
      obtain ⟨f1, f2, f3, f4, f5, f6⟩ := sign_facts hsi
      have htwo' : twoB s 0 47 42 = false := by simpa using htwo
      refine ⟨lex_one (bet_none hs f4 f5 htwo') hs hs2 (one_plain f6 ?_) rfl, f6⟩
      have hd : ((bn s 0 : Int) == 46 && (decide (0 + 1 = s.size) || blankB (bn s (0 + 1)) || (bn s (0 + 1) : Int) == 37)) = false := by
        cases h46 : ((bn s 0 : Int) == 46) with
        | false => rfl
        | true =>
          rw [h46] at hdot
          have h1 : s.size ≠ 1 := by simpa using hdot
          have hk := run_all hrun (i := 0 + 1) (by omega)
          have hsg : signB (bn s (0 + 1)) = true := by simpa [kindB] using hk
          obtain ⟨_, _, _, g4, g5, _⟩ := sign_facts hsg
          rw [g4, g5, decide_eq_false (by omega)]
          rfl
      unfold headN
      rw [hd, f1, f2, f3, hsi, hrun]
      simp
    | false =>
      rw [hsi] at h
      simp only [Bool.false_eq_true, if_false, Bool.and_eq_true, decide_eq_true_eq, Bool.or_eq_true, beq_iff_eq] at h
      obtain ⟨hc, h1⟩ := h
      have f : ∀ c : Int, (c = 33 ∨ c = 59) → blankB c = false ∧ (c == 37) = false ∧ (c == 39) = false ∧ (c == 46) = false ∧ (c == 47) = false ∧ greatB c = false ∧ digitB c = false ∧ (c == 33 || c == 59) = true := by
        rintro c (rfl | rfl) <;> exact ⟨by decide, by decide, by decide, by decide, by decide, by decide, by decide, by decide⟩
      obtain ⟨f1, f2, f3, f4, f5, f6, f7, f8⟩ := f _ hc
      refine ⟨lex_one (bet_none hs f1 f2 (by unfold twoB; rw [f5]; simp)) hs hs2 (one_plain f3 ?_) rfl, f3⟩
      unfold headN
      rw [f4, hsm, f6, f7, hsi, f8, h1]
      simp
/-- What the reference asks of a name that stands without quotes. -/
theorem plain_of_lex {s : ByteArray} {x : Tk} (h : lexN s = .ok [x]) (hk : x.k = 1) (ht : x.t = s) (hb : x.b = s.size) : plainN s = true := by
  obtain ⟨ht0, hs2⟩ := lex_toks h
  by_cases hs : 0 < s.size
  · rw [toksN_one hs] at ht0
    have hge := betN_ge (s := s) (j := 0) (by omega)
    cases hbe : betN s 0 with
    | mk f b =>
      rw [hbe] at ht0 hge
      dsimp only at hge
      cases b with
      | false => cases ht0
      | true =>
        dsimp only at ht0
        by_cases hf : f = s.size
        · rw [if_pos hf] at ht0; injection ht0 with ht0; cases ht0
        · rw [if_neg hf] at ht0
          cases ho : oneN s f [] with
          | bad p e => rw [ho] at ht0; cases ht0
          | ok y =>
            rw [ho] at ht0
            dsimp only at ht0
            have hyx : y = x := by
              obtain ⟨_, hp, _⟩ := toks_ind (s := s) (fun _ l => ∃ r, l = y :: r) (fun k l f x _ hp _ _ _ => by obtain ⟨r, rfl⟩ := hp; exact ⟨r ++ [x], rfl⟩) _ _ _ _ (Nat.le_refl _) ⟨[], rfl⟩ ht0
              obtain ⟨r, hr⟩ := hp
              injection hr with h1 _
              exact h1.symm
            subst hyx
            clear ht0
            unfold oneN at ho
            rw [show ([] : List Tk).getLast? = none from rfl] at ho
            cases hh : headN s f none with
            | none => rw [hh] at ho; cases ho
            | some q =>
              obtain ⟨K, j⟩ := q
              rw [hh] at ho
              dsimp only at ho
              rw [if_neg (by simp)] at ho
              split at ho
              · cases hq : quoN s f (f + 1) [] with
                | bad p e => rw [hq] at ho; cases ho
                | ok t p =>
                  rw [hq] at ho
                  injection ho with ho
                  have h1 := quo_len _ _ _ _ _ _ _ hq
                  have h2 : t.length = s.size := by rw [← ht, ← ho]; rfl
                  have h3 : p = s.size := by rw [← hb, ← ho]
                  simp at h1
                  omega
              · rename_i hf39
                injection ho with ho
                have h3 : j = s.size := by rw [← hb, ← ho]
                have hK : K = 1 := by rw [← hk, ← ho]
                have h2 : (s.extract f j).size = s.size := by
                  have : (y.t).size = s.size := by rw [ht]
                  rw [← ho] at this
                  exact this
                rw [ByteArray.size_extract] at h2
                have hf0 : f = 0 := by omega
                subst hf0; subst h3; subst hK
                rw [betN_eq hs] at hbe
                have g1 : blankB (bn s 0) = false := by
                  cases hbl : blankB (bn s 0) with
                  | false => rfl
                  | true =>
                    rw [if_pos hbl] at hbe
                    have := betN_ge (s := s) (j := 0 + 1) (by omega)
                    rw [hbe] at this
                    dsimp only at this
                    omega
                have g3 : twoB s 0 47 42 = false := by
                  cases hbl : twoB s 0 47 42 with
                  | false => rfl
                  | true =>
                    have h47 : (bn s 0 : Int) = 47 := by
                      unfold twoB at hbl
                      simp only [Bool.and_eq_true, beq_iff_eq] at hbl
                      exact hbl.1.2
                    rw [g1, hbl, h47] at hbe
                    rw [if_neg (by decide), if_neg (by decide), if_pos rfl] at hbe
                    have h8 := endN_ge s (0 + 2)
                    split at hbe
                    · rename_i h9
                      have h10 := twoB_lt (endN_two h9)
                      have := betN_ge (s := s) (j := endN s (0 + 2) + 2) (by omega)
                      rw [hbe] at this
                      dsimp only at this
                      omega
                    · injection hbe with _ hbe; cases hbe
                unfold plainN
                rw [decide_eq_true hs, Bool.true_and]
                unfold headN at hh
                split at hh
                · injection hh with hh; injection hh with hh _; omega
                · rename_i hnd
                  split at hh
                  · rename_i hsm
                    injection hh with hh; injection hh with _ hh
                    rw [if_pos hsm, hh]
                    simp
                  · rename_i hsm
                    rw [if_neg hsm]
                    split at hh
                    · injection hh with hh; injection hh with hh _; omega
                    · split at hh
                      · injection hh with hh; injection hh with hh _; omega
                      · split at hh
                        · rename_i hsi
                          injection hh with hh; injection hh with _ hh
                          rw [if_pos hsi, hh, g3]
                          have hdd : (decide (s.size = 1) && (bn s 0 : Int) == 46) = false := by
                            cases h1 : decide (s.size = 1) with
                            | false => rfl
                            | true =>
                              have h1' : 0 + 1 = s.size := by have := of_decide_eq_true h1; omega
                              rw [decide_eq_true h1'] at hnd
                              cases h46 : ((bn s 0 : Int) == 46) with
                              | false => rfl
                              | true => rw [h46] at hnd; simp at hnd
                          rw [hdd]
                          simp
                        · rename_i hsi
                          rw [if_neg hsi]
                          split at hh
                          · rename_i hso
                            injection hh with hh; injection hh with _ hh
                            rw [Bool.and_eq_true, decide_eq_true_eq]
                            exact ⟨hso, by omega⟩
                          · split at hh
                            · injection hh with hh; injection hh with _ hh; omega
                            · cases hh
  · rw [toksN_end (by omega)] at ht0
    injection ht0 with ht0
    cases ht0
/-- What a name that can be quoted is read as. -/
theorem lex_quote {s : ByteArray} (hs : s.size ≤ 2000) (hq : (quoteN s).size ≠ 0) : lexN (quoteN s) = .ok [⟨1, s, 0, (quoteN s).size⟩] ∧ 0 < (quoteN s).size ∧ (quoteN s).size ≤ 2 * s.size + 2 := by
  unfold quoteN at hq ⊢
  cases hp : plainN s with
  | true =>
    rw [hp, if_pos rfl] at hq
    rw [if_pos rfl]
    exact ⟨(lex_plain hp (by omega)).1, by omega, by omega⟩
  | false =>
    rw [hp] at hq
    simp only [Bool.false_eq_true, if_false] at hq ⊢
    cases he : escN s.data.toList with
    | none => rw [he] at hq; exact absurd rfl hq
    | some x =>
      dsimp only
      have h1 := escN_len _ _ he
      rw [list_len] at h1
      have hz : (quotedN x).size = x.length + 2 := by show (39 :: (x ++ [39])).length = _; simp
      refine ⟨?_, by omega, by omega⟩
      have := lex_quoted he (by omega)
      simpa using this
end Go.Proofs.YtiefbdblefliaaaDoor
namespace Go.Proofs.YtiefbdblefliaaaDoor
open Go.RowKit

/-- May a term be? -/
def T.legal : T → Prop
  | .nil => False
  | .mk k n s m a => (k = 1 ∧ 0 ≤ n) ∨ k = 2 ∨ (k = 3 ∧ (quoteN s).size ≠ 0) ∨ (k = 4 ∧ (quoteN s).size ≠ 0 ∧ 0 < m ∧ ∀ i, i < m → (a i).legal)
/-- How many parts it has, where only compound ones have any within. -/
def T.sizeK : T → Nat
  | .nil => 1
  | .mk k _ _ m a => 1 + if k = 4 then sumTo m fun i => (a i).sizeK else 0
/-- Its names are of few bytes. -/
def T.short : T → Prop
  | .nil => True
  | .mk _ _ s m a => s.size ≤ 4096 ∧ ∀ i, i < m → (a i).short
theorem T.sizeK_pos : ∀ (t : T), 0 < t.sizeK
  | .nil => by simp [T.sizeK]
  | .mk k n s m a => by simp only [T.sizeK]; omega
/-- What 'parts' comes to. -/
def PartsR (t : T) (left r : Int) : Prop := (t.legal ∧ (t.sizeK : Int) ≤ left ∧ r = left - t.sizeK) ∨ (¬ (t.legal ∧ (t.sizeK : Int) ≤ left) ∧ r = -1)
/-- What is left behind some of the arguments. -/
def RowR (m : Nat) (a : Nat → T) (L : Int) (i : Nat) (r : Int) : Prop :=
  ((∀ q, q < i → (a q).legal) ∧ ((sumTo i fun q => (a q).sizeK : Nat) : Int) ≤ L ∧ r = L - (sumTo i fun q => (a q).sizeK : Nat)) ∨ (¬ ((∀ q, q < m → (a q).legal) ∧ ((sumTo m fun q => (a q).sizeK : Nat) : Int) ≤ L) ∧ r = -1)
theorem RowR.start {m : Nat} {a : Nat → T} {L : Int} (h : 0 ≤ L) : RowR m a L 0 L := .inl ⟨fun _ h => absurd h (by omega), by simpa [sumTo] using h, by simp [sumTo]⟩
theorem sumTo_upto {m i : Nat} (f : Nat → Nat) (h : i ≤ m) : sumTo i f ≤ sumTo m f := by
  induction m with
  | zero => obtain rfl : i = 0 := by omega
            exact Nat.le_refl _
  | succ m ih =>
    rcases Nat.lt_or_ge i (m + 1) with h1 | h1
    · have := ih (by omega); simp only [sumTo]; omega
    · obtain rfl : i = m + 1 := by omega
      exact Nat.le_refl _
theorem RowR.step {m i : Nat} {a : Nat → T} {L r r' : Int} (h : RowR m a L i r) (hi : i < m) (h0 : 0 ≤ r) (hp : PartsR (a i) r r') : RowR m a L (i + 1) r' := by
  rcases h with ⟨h1, h2, h3⟩ | ⟨_, h2⟩
  · rcases hp with ⟨p1, p2, p3⟩ | ⟨p1, p2⟩
    · refine .inl ⟨fun q hq => ?_, ?_, ?_⟩
      · rcases Nat.lt_or_ge q i with h4 | h4
        · exact h1 q h4
        · obtain rfl : q = i := by omega
          exact p1
      · simp only [sumTo]; omega
      · simp only [sumTo]; omega
    · refine .inr ⟨fun ⟨q1, q2⟩ => p1 ⟨q1 i hi, ?_⟩, p2⟩
      have := sumTo_upto (fun q => (a q).sizeK) (show i + 1 ≤ m by omega)
      simp only [sumTo] at this
      omega
  · omega
theorem RowR.done {k n : Int} {s : ByteArray} {m : Nat} {a : Nat → T} {L r : Int} (h : RowR m a L m r) (hk : k = 4) (hs : (quoteN s).size ≠ 0) (hm : 0 < m) : PartsR (.mk k n s m a) (L + 1) r := by
  have e : (T.mk k n s m a).sizeK = 1 + sumTo m fun q => (a q).sizeK := by simp only [T.sizeK]; rw [if_pos hk]
  rcases h with ⟨h1, h2, h3⟩ | ⟨h1, h2⟩
  · exact .inl ⟨.inr (.inr (.inr ⟨hk, hs, hm, h1⟩)), by rw [e]; omega, by rw [e]; omega⟩
  · refine .inr ⟨fun ⟨q1, q2⟩ => h1 ⟨?_, by rw [e] at q2; omega⟩, h2⟩
    rcases q1 with q | q | q | q
    · omega
    · omega
    · omega
    · exact q.2.2.2
/-- An ended row of arguments: below 0 ahead of its end. -/
theorem RowR.cut {m i : Nat} {a : Nat → T} {L r : Int} (h : RowR m a L i r) (h0 : ¬ 0 ≤ r) : RowR m a L m r := by
  rcases h with ⟨_, h2, h3⟩ | h
  · omega
  · exact .inr h
theorem parts_leaf {k n : Int} {s : ByteArray} {m : Nat} {a : Nat → T} {L : Int} (hk : k ≠ 4) (hl : (T.mk k n s m a).legal) (h : 0 ≤ L) : PartsR (.mk k n s m a) (L + 1) L := by
  have e : (T.mk k n s m a).sizeK = 1 := by simp only [T.sizeK]; rw [if_neg hk]
  exact .inl ⟨hl, by rw [e]; omega, by rw [e]; omega⟩
theorem parts_bad {k n : Int} {s : ByteArray} {m : Nat} {a : Nat → T} {L : Int} (hl : ¬ (T.mk k n s m a).legal) : PartsR (.mk k n s m a) L (-1) := .inr ⟨fun h => hl h.1, rfl⟩
theorem parts_many {k n : Int} {s : ByteArray} {m : Nat} {a : Nat → T} {L : Int} (hk : k = 4) (h : L < (m : Int)) : PartsR (.mk k n s m a) (L + 1) (-1) := by
  refine .inr ⟨fun ⟨_, h2⟩ => ?_, rfl⟩
  have e : (T.mk k n s m a).sizeK = 1 + sumTo m fun q => (a q).sizeK := by simp only [T.sizeK]; rw [if_pos hk]
  have h3 : m ≤ sumTo m fun q => (a q).sizeK := sum_ones m _ fun i _ => (a i).sizeK_pos
  rw [e] at h2
  omega
theorem parts_none {t : T} {L : Int} (h : L ≤ 0) : PartsR t L (-1) := .inr ⟨fun ⟨_, h2⟩ => by have := t.sizeK_pos; omega, rfl⟩
/-- May it be written: Good. -/
def T.goodW (t : T) : Prop := t.legal ∧ t.sizeK ≤ 1000
end Go.Proofs.YtiefbdblefliaaaDoor
