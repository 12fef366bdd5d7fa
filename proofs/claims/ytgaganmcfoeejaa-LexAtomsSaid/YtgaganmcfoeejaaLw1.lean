/- Plain facts on texts that are joined: a text with a blank behind it; two texts that are the same from two places on. -/
import Derived.Test.YtgaganmcfoeejaaL2
namespace Go.Proofs.Ytgaganmcfoeejaa

/-- Two texts that are the same from two places on. -/
structure Alike (u u' : ByteArray) (o o' n : Nat) : Prop where
  su : u.size = o + n
  su' : u'.size = o' + n
  eq : ∀ i, bu u (o + i) = bu u' (o' + i)
theorem Alike.bn {u u' : ByteArray} {o o' n : Nat} (h : Alike u u' o o' n) (i : Nat) : bn u (o + i) = bn u' (o' + i) := by
  rw [bn_bu, bn_bu, h.eq]
theorem Alike.two {u u' : ByteArray} {o o' n : Nat} (h : Alike u u' o o' n) (i : Nat) (a b : Int) : twoB u (o + i) a b = twoB u' (o' + i) a b := by
  have h1 := h.su
  have h2 := h.su'
  have h3 := h.bn (i + 1)
  rw [← Nat.add_assoc, ← Nat.add_assoc] at h3
  have h4 : decide (o + i + 1 < u.size) = decide (o' + i + 1 < u'.size) := decide_eq_decide.2 (by omega)
  unfold twoB
  rw [h.bn i, h3, h4]
theorem Alike.runF {u u' : ByteArray} {o o' n : Nat} (h : Alike u u' o o' n) : ∀ (f : Nat) (k : Int) (j : Nat), ∃ d, runF f k u (o + j) = o + d ∧ Go.Proofs.Ytgaganmcfoeejaa.runF f k u' (o' + j) = o' + d ∧ j ≤ d
  | 0, _, j => ⟨j, rfl, rfl, Nat.le_refl _⟩
  | f + 1, k, j => by
    unfold Go.Proofs.Ytgaganmcfoeejaa.runF
    rw [h.bn j]
    split
    · obtain ⟨d, h1, h2, h3⟩ := h.runF f k (j + 1)
      exact ⟨d, h1, h2, by omega⟩
    · exact ⟨j, rfl, rfl, Nat.le_refl _⟩
theorem Alike.runN {u u' : ByteArray} {o o' n : Nat} (h : Alike u u' o o' n) (k : Int) (j : Nat) : ∃ d, runN k u (o + j) = o + d ∧ Go.Proofs.Ytgaganmcfoeejaa.runN k u' (o' + j) = o' + d ∧ j ≤ d := by
  have h1 := h.su
  have h2 := h.su'
  have e1 : u.size - (o + j) = n - j := by omega
  have e2 : u'.size - (o' + j) = n - j := by omega
  unfold Go.Proofs.Ytgaganmcfoeejaa.runN
  rw [e1, e2]
  exact h.runF _ k j
theorem Alike.lineF {u u' : ByteArray} {o o' n : Nat} (h : Alike u u' o o' n) : ∀ (f : Nat) (j : Nat), ∃ d, lineF f u (o + j) = o + d ∧ Go.Proofs.Ytgaganmcfoeejaa.lineF f u' (o' + j) = o' + d ∧ j ≤ d
  | 0, j => ⟨j, rfl, rfl, Nat.le_refl _⟩
  | f + 1, j => by
    unfold Go.Proofs.Ytgaganmcfoeejaa.lineF
    rw [h.bn j]
    split
    · obtain ⟨d, h1, h2, h3⟩ := h.lineF f (j + 1)
      exact ⟨d, h1, h2, by omega⟩
    · exact ⟨j, rfl, rfl, Nat.le_refl _⟩
theorem Alike.lineN {u u' : ByteArray} {o o' n : Nat} (h : Alike u u' o o' n) (j : Nat) : ∃ d, lineN u (o + j) = o + d ∧ Go.Proofs.Ytgaganmcfoeejaa.lineN u' (o' + j) = o' + d ∧ j ≤ d := by
  have h1 := h.su
  have h2 := h.su'
  have e1 : u.size - (o + j) = n - j := by omega
  have e2 : u'.size - (o' + j) = n - j := by omega
  unfold Go.Proofs.Ytgaganmcfoeejaa.lineN
  rw [e1, e2]
  exact h.lineF _ j
theorem Alike.endF {u u' : ByteArray} {o o' n : Nat} (h : Alike u u' o o' n) : ∀ (f : Nat) (j : Nat), ∃ d, endF f u (o + j) = o + d ∧ Go.Proofs.Ytgaganmcfoeejaa.endF f u' (o' + j) = o' + d ∧ j ≤ d
  | 0, j => ⟨j, rfl, rfl, Nat.le_refl _⟩
  | f + 1, j => by
    unfold Go.Proofs.Ytgaganmcfoeejaa.endF
    rw [h.two j]
    split
    · exact ⟨j, rfl, rfl, Nat.le_refl _⟩
    · obtain ⟨d, h1, h2, h3⟩ := h.endF f (j + 1)
      exact ⟨d, h1, h2, by omega⟩
theorem Alike.endN {u u' : ByteArray} {o o' n : Nat} (h : Alike u u' o o' n) (j : Nat) : ∃ d, endN u (o + j) = o + d ∧ Go.Proofs.Ytgaganmcfoeejaa.endN u' (o' + j) = o' + d ∧ j ≤ d := by
  have h1 := h.su
  have h2 := h.su'
  have e1 : u.size - (o + j) = n - j := by omega
  have e2 : u'.size - (o' + j) = n - j := by omega
  unfold Go.Proofs.Ytgaganmcfoeejaa.endN
  rw [e1, e2]
  exact h.endF _ j
theorem Alike.betF {u u' : ByteArray} {o o' n : Nat} (h : Alike u u' o o' n) : ∀ (f : Nat) (j : Nat), ∃ d b, betF f u (o + j) = (o + d, b) ∧ Go.Proofs.Ytgaganmcfoeejaa.betF f u' (o' + j) = (o' + d, b) ∧ j ≤ d
  | 0, j => ⟨j, true, rfl, rfl, Nat.le_refl _⟩
  | f + 1, j => by
    have h1 := h.su
    have h2 := h.su'
    unfold Go.Proofs.Ytgaganmcfoeejaa.betF
    rw [h.bn j, h.two j]
    by_cases hj : j < n
    · rw [if_pos (by omega : o + j < u.size), if_pos (by omega : o' + j < u'.size)]
      split
      · obtain ⟨d, b, h3, h4, h5⟩ := h.betF f (j + 1)
        exact ⟨d, b, h3, h4, by omega⟩
      · split
        · obtain ⟨c, h3, h4, h5⟩ := h.lineN j
          rw [h3, h4]
          obtain ⟨d, b, h6, h7, h8⟩ := h.betF f c
          exact ⟨d, b, h6, h7, by omega⟩
        · split
          · obtain ⟨c, h3, h4, h5⟩ := h.endN (j + 2)
            rw [← Nat.add_assoc] at h3 h4
            rw [h3, h4]
            by_cases hc : c < n
            · rw [if_pos (by omega : o + c < u.size), if_pos (by omega : o' + c < u'.size)]
              obtain ⟨d, b, h6, h7, h8⟩ := h.betF f (c + 2)
              exact ⟨d, b, h6, h7, by omega⟩
            · rw [if_neg (by omega : ¬ o + c < u.size), if_neg (by omega : ¬ o' + c < u'.size)]
              exact ⟨j, false, rfl, rfl, Nat.le_refl _⟩
          · exact ⟨j, true, rfl, rfl, Nat.le_refl _⟩
    · rw [if_neg (by omega : ¬ o + j < u.size), if_neg (by omega : ¬ o' + j < u'.size)]
      exact ⟨j, true, rfl, rfl, Nat.le_refl _⟩
theorem Alike.betN {u u' : ByteArray} {o o' n : Nat} (h : Alike u u' o o' n) (j : Nat) : ∃ d b, betN u (o + j) = (o + d, b) ∧ Go.Proofs.Ytgaganmcfoeejaa.betN u' (o' + j) = (o' + d, b) ∧ j ≤ d := by
  have h1 := h.su
  have h2 := h.su'
  have e1 : u.size - (o + j) = n - j := by omega
  have e2 : u'.size - (o' + j) = n - j := by omega
  unfold Go.Proofs.Ytgaganmcfoeejaa.betN
  rw [e1, e2]
  exact h.betF _ j
theorem Alike.quoF {u u' : ByteArray} {o o' n : Nat} (h : Alike u u' o o' n) : ∀ (f i k : Nat) (b : List UInt8), (∃ t p, quoF f u (o + i) (o + k) b = .ok t (o + p) ∧ Go.Proofs.Ytgaganmcfoeejaa.quoF f u' (o' + i) (o' + k) b = .ok t (o' + p)) ∨
    ∃ p e, Go.Proofs.Ytgaganmcfoeejaa.quoF f u (o + i) (o + k) b = .bad (o + p) e ∧ Go.Proofs.Ytgaganmcfoeejaa.quoF f u' (o' + i) (o' + k) b = .bad (o' + p) e
  | 0, i, _, _ => .inr ⟨i, 31, rfl, rfl⟩
  | f + 1, i, k, b => by
    have h1 := h.su
    have h2 := h.su'
    have e1 := h.bn (k + 1)
    have e2 := h.eq (k + 1)
    rw [← Nat.add_assoc, ← Nat.add_assoc] at e1 e2
    unfold Go.Proofs.Ytgaganmcfoeejaa.quoF
    rw [h.bn k, h.two k, e1, e2, h.eq k]
    by_cases hk : k < n
    · rw [if_pos (by omega : o + k < u.size), if_pos (by omega : o' + k < u'.size)]
      split
      · exact h.quoF f i (k + 2) _
      · split
        · exact .inl ⟨b, k + 1, rfl, rfl⟩
        · split
          · by_cases hk1 : k + 1 = n
            · rw [if_pos (by omega : o + k + 1 = u.size), if_pos (by omega : o' + k + 1 = u'.size)]
              exact .inr ⟨i, 31, rfl, rfl⟩
            · rw [if_neg (by omega : ¬ o + k + 1 = u.size), if_neg (by omega : ¬ o' + k + 1 = u'.size)]
              split
              · exact h.quoF f i (k + 2) _
              · split
                · exact h.quoF f i (k + 2) _
                · split
                  · exact h.quoF f i (k + 2) _
                  · exact .inr ⟨k, 32, rfl, rfl⟩
          · split
            · exact .inr ⟨k, 30, rfl, rfl⟩
            · exact h.quoF f i (k + 1) _
    · rw [if_neg (by omega : ¬ o + k < u.size), if_neg (by omega : ¬ o' + k < u'.size)]
      exact .inr ⟨i, 31, rfl, rfl⟩
theorem Alike.quoN {u u' : ByteArray} {o o' n : Nat} (h : Alike u u' o o' n) (i k : Nat) (b : List UInt8) : (∃ t p, quoN u (o + i) (o + k) b = .ok t (o + p) ∧ Go.Proofs.Ytgaganmcfoeejaa.quoN u' (o' + i) (o' + k) b = .ok t (o' + p)) ∨
    ∃ p e, Go.Proofs.Ytgaganmcfoeejaa.quoN u (o + i) (o + k) b = .bad (o + p) e ∧ Go.Proofs.Ytgaganmcfoeejaa.quoN u' (o' + i) (o' + k) b = .bad (o' + p) e := by
  have h1 := h.su
  have h2 := h.su'
  have e1 : u.size - (o + k) = n - k := by omega
  have e2 : u'.size - (o' + k) = n - k := by omega
  unfold Go.Proofs.Ytgaganmcfoeejaa.quoN
  rw [e1, e2]
  exact h.quoF _ i k b
/-- Two heads of tokens, alike. -/
def HP (o o' : Nat) (q : Bool) (r r' : Option (Int × Nat)) : Prop := (r = none ∧ r' = none) ∨ ∃ K j j', r = some (K, j) ∧ r' = some (K, j') ∧ (q = false → ∃ d, j = o + d ∧ j' = o' + d)
theorem HP.ite {o o' : Nat} {q : Bool} {c : Prop} [Decidable c] {a b a' b' : Option (Int × Nat)} (h1 : c → HP o o' q a a') (h2 : ¬c → HP o o' q b b') : HP o o' q (if c then a else b) (if c then a' else b') := by
  by_cases h : c
  · rw [if_pos h, if_pos h]; exact h1 h
  · rw [if_neg h, if_neg h]; exact h2 h
theorem HP.mk {o o' : Nat} {q : Bool} (K : Int) (d : Nat) : HP o o' q (some (K, o + d)) (some (K, o' + d)) := .inr ⟨K, _, _, rfl, rfl, fun _ => ⟨d, rfl, rfl⟩⟩
theorem Alike.headN {u u' : ByteArray} {o o' n : Nat} (h : Alike u u' o o' n) (f : Nat) (q q' : Option Tk) (ho : opens q (o + f) = opens q' (o' + f)) :
    HP o o' ((Go.Proofs.Ytgaganmcfoeejaa.bn u' (o' + f) : Int) == 39) (headN u (o + f) q) (Go.Proofs.Ytgaganmcfoeejaa.headN u' (o' + f) q') := by
  have h1 := h.su
  have h2 := h.su'
  have e1 := h.bn (f + 1)
  rw [← Nat.add_assoc, ← Nat.add_assoc] at e1
  have e3 : decide (o + f + 1 = u.size) = decide (o' + f + 1 = u'.size) := decide_eq_decide.2 (by omega)
  obtain ⟨d1, a1, a2, _⟩ := h.runN 1 f
  obtain ⟨d2, a3, a4, _⟩ := h.runN 2 f
  obtain ⟨d3, a5, a6, _⟩ := h.runN 3 f
  unfold Go.Proofs.Ytgaganmcfoeejaa.headN
  rw [h.bn f, e1, e3, ho, a1, a2, a3, a4, a5, a6]
  refine HP.ite (fun _ => HP.mk 6 (f + 1)) fun _ => HP.ite (fun _ => HP.mk 1 d1) fun _ => HP.ite (fun _ => HP.mk 2 d1) fun _ => HP.ite (fun _ => HP.mk 3 d2) fun _ => HP.ite (fun _ => HP.mk 1 d3) fun _ => HP.ite (fun _ => HP.mk 1 (f + 1)) fun _ => HP.ite (fun h39 => ?_) fun _ => HP.ite (fun _ => HP.mk _ (f + 1)) fun _ => .inl ⟨rfl, rfl⟩
  exact .inr ⟨1, _, _, rfl, rfl, fun hh => by rw [h39] at hh; cases hh⟩
/-- A token, as it stands in the other text. -/
def Tk.sh (o o' : Nat) (x : Tk) : Tk := ⟨x.k, x.t, x.a - o' + o, x.b - o' + o⟩
theorem bu_get {s : ByteArray} {i : Nat} (h : i < s.data.size) : s.data[i] = bu s i := by
  rw [bu, List.getD_eq_getElem?_getD, Array.getElem?_toList, Array.getElem?_eq_getElem h]
  rfl
theorem Alike.extract {u u' : ByteArray} {o o' n : Nat} (h : Alike u u' o o' n) (f d : Nat) : u.extract (o + f) (o + d) = u'.extract (o' + f) (o' + d) := by
  have h1 : u.data.size = o + n := h.su
  have h2 : u'.data.size = o' + n := h.su'
  apply ByteArray.ext
  rw [ByteArray.data_extract, ByteArray.data_extract]
  apply Array.ext
  · rw [Array.size_extract, Array.size_extract, h1, h2]
    omega
  · intro i a b
    rw [Array.size_extract, h1] at a
    rw [Array.size_extract, h2] at b
    rw [Array.getElem_extract, Array.getElem_extract, bu_get, bu_get, Nat.add_assoc, Nat.add_assoc]
    exact h.eq _
theorem Alike.one {u u' : ByteArray} {o o' n : Nat} (h : Alike u u' o o' n) (f : Nat) (l l' : List Tk) (ho : opens l.getLast? (o + f) = opens l'.getLast? (o' + f)) {y : Tk} (hy : oneN u' (o' + f) l' = .ok y) (hl : l.length ≠ 1000) :
    oneN u (o + f) l = .ok (y.sh o o') ∧ o' + f = y.a ∧ ∃ d, y.b = o' + d := by
  unfold oneN at hy ⊢
  rcases h.headN f _ _ ho with ⟨_, h2⟩ | ⟨K, j, j', h2, h3, h4⟩
  · rw [h2] at hy; cases hy
  · rw [h3] at hy
    rw [h2]
    dsimp only at hy ⊢
    rw [if_neg hl]
    split at hy
    · cases hy
    · rw [h.bn f]
      split at hy
      · rename_i h39
        rw [if_pos h39]
        rcases h.quoN f (f + 1) [] with ⟨t, p, h5, h6⟩ | ⟨p, e, h5, h6⟩
        · rw [← Nat.add_assoc] at h5 h6
          rw [h6] at hy
          rw [h5]
          injection hy with hy
          subst hy
          refine ⟨?_, rfl, p, rfl⟩
          simp only [Tk.sh, Nat.add_sub_cancel_left]
          rw [Nat.add_comm f o, Nat.add_comm p o]
        · rw [← Nat.add_assoc] at h6
          rw [h6] at hy
          cases hy
      · rename_i h39
        rw [if_neg h39]
        injection hy with hy
        subst hy
        obtain ⟨d, rfl, rfl⟩ := h4 (by simpa using h39)
        refine ⟨?_, rfl, d, rfl⟩
        simp only [Tk.sh, Nat.add_sub_cancel_left]
        rw [h.extract f d, Nat.add_comm f o, Nat.add_comm d o]
/-- The rest of a text, lexed in another one. -/
theorem Alike.toks {u u' : ByteArray} {o o' n : Nat} (h : Alike u u' o o' n) : ∀ (m k : Nat) (l l' r : List Tk), n - k ≤ m → k ≤ n → (∀ f, k ≤ f → opens l.getLast? (o + f) = opens l'.getLast? (o' + f)) → toksN u' (o' + k) l' = .ok r →
    ∃ x, r = l' ++ x ∧ (∀ y ∈ x, o' ≤ y.a ∧ o' ≤ y.b) ∧ (l.length + x.length ≤ 1000 → toksN u (o + k) l = .ok (l ++ x.map (Tk.sh o o')))
  | m, k, l, l', r, hm, hk, ho, ht => by
    have h1 := h.su
    have h2 := h.su'
    by_cases hkn : k < n
    · rw [toksN_one (by omega)] at ht
      obtain ⟨d, b, h3, h4, h5⟩ := h.betN k
      have hge := betN_ge (s := u') (j := o' + k) (by omega)
      rw [h4] at ht hge
      dsimp only at hge
      cases b with
      | false => cases ht
      | true =>
        dsimp only at ht
        by_cases hd : d = n
        · rw [if_pos (by omega)] at ht
          injection ht with ht
          subst ht
          refine ⟨[], by simp, by simp, fun _ => ?_⟩
          rw [toksN_one (by omega), h3]
          dsimp only
          rw [if_pos (by omega)]
          simp
        · rw [if_neg (by omega)] at ht
          cases hy : oneN u' (o' + d) l' with
          | bad p e => rw [hy] at ht; cases ht
          | ok y =>
            rw [hy] at ht
            dsimp only at ht
            have hok := oneN_ok hy (by omega)
            by_cases hl : l.length = 1000
            · obtain ⟨c, hc⟩ : ∃ c, y.b = o' + c := ⟨y.b - o', by omega⟩
              match m, hm with
              | 0, hm => omega
              | m + 1, hm =>
                rw [hc] at ht
                obtain ⟨x, rfl, h7, h8⟩ := h.toks m c (l ++ [y.sh o o']) (l' ++ [y]) r (by omega) (by omega) (by
                  intro f hf
                  simp only [List.getLast?_append, List.getLast?_singleton, Option.some_or, opens, Tk.sh]
                  congr 1
                  rw [hc]
                  apply Bool.eq_iff_iff.2
                  simp only [beq_iff_eq]
                  omega) ht
                refine ⟨y :: x, by simp, ?_, fun hh => ?_⟩
                · intro z hz
                  rcases List.mem_cons.1 hz with rfl | hz
                  · omega
                  · exact h7 z hz
                · simp at hh; omega
            · obtain ⟨h6, ha, c, hc⟩ := h.one d l l' (ho d h5) hy hl
              match m, hm with
              | 0, hm => omega
              | m + 1, hm =>
                rw [hc] at ht
                obtain ⟨x, rfl, h7, h8⟩ := h.toks m c (l ++ [y.sh o o']) (l' ++ [y]) r (by omega) (by omega) (by
                  intro f hf
                  simp only [List.getLast?_append, List.getLast?_singleton, Option.some_or, opens, Tk.sh]
                  congr 1
                  rw [hc]
                  apply Bool.eq_iff_iff.2
                  simp only [beq_iff_eq]
                  omega) ht
                refine ⟨y :: x, by simp, ?_, fun hh => ?_⟩
                · intro z hz
                  rcases List.mem_cons.1 hz with rfl | hz
                  · omega
                  · exact h7 z hz
                · rw [toksN_one (by omega), h3]
                  dsimp only
                  rw [if_neg (by omega), h6]
                  dsimp only
                  have hb : (y.sh o o').b = o + c := by simp only [Tk.sh]; omega
                  rw [hb, h8 (by simp at hh ⊢; omega)]
                  simp
    · have hkk : k = n := by omega
      subst hkk
      rw [toksN_end (by omega)] at ht
      injection ht with ht
      subst ht
      exact ⟨[], by simp, by simp, fun _ => by rw [toksN_end (by omega)]; simp⟩

/-- A text that stands ahead of a blank. -/
structure Ahead0 (s u : ByteArray) : Prop where
  lt : s.size < u.size
  eq : ∀ i, i < s.size → bu u i = bu s i
  blk : blankB (bn u s.size) = true
/-- The same, where a comment at its end does not matter. -/
structure Ahead (s u : ByteArray) : Prop extends Ahead0 s u where
  line : betN u (lineN u s.size) = betN u s.size
theorem Ahead0.bn {s u : ByteArray} (h : Ahead0 s u) {i : Nat} (hi : i < s.size) : bn u i = bn s i := by rw [bn_bu, bn_bu, h.eq i hi]
theorem blank_cases {c : Int} (h : blankB c = true) : c = 32 ∨ c = 9 ∨ c = 10 ∨ c = 13 := by
  simp only [blankB, Bool.or_eq_true, beq_iff_eq] at h
  omega
theorem kind_blank {k c : Int} (h : blankB c = true) : kindB k c = false := by
  have hk : ∀ c : Int, (c = 32 ∨ c = 9 ∨ c = 10 ∨ c = 13) → namedB c = false ∧ digitB c = false ∧ signB c = false := by
    rintro c (rfl | rfl | rfl | rfl) <;> exact ⟨by decide, by decide, by decide⟩
  obtain ⟨h1, h2, h3⟩ := hk c (blank_cases h)
  simp [kindB, h1, h2, h3]
theorem Ahead0.two {s u : ByteArray} (h : Ahead0 s u) {i : Nat} (hi : i < s.size) {a b : Int} (hb : blankB b = false) : twoB u i a b = twoB s i a b := by
  have hlt := h.lt
  unfold twoB
  rw [h.bn hi]
  by_cases h1 : i + 1 < s.size
  · rw [h.bn h1, decide_eq_true h1, decide_eq_true (by omega : i + 1 < u.size)]
  · have h2 : i + 1 = s.size := by omega
    rw [decide_eq_false h1, h2]
    have h3 : (((Go.Proofs.Ytgaganmcfoeejaa.bn u s.size : Nat) : Int) == b) = false := by
      apply Bool.eq_false_iff.2
      intro h4
      have h5 : ((Go.Proofs.Ytgaganmcfoeejaa.bn u s.size : Nat) : Int) = b := by simpa using h4
      have := h.blk
      rw [h5, hb] at this
      cases this
    rw [h3]
    simp
theorem Ahead0.runN {s u : ByteArray} (h : Ahead0 s u) (k : Int) : ∀ (m j : Nat), s.size - j ≤ m → j ≤ s.size → runN k u j = Go.Proofs.Ytgaganmcfoeejaa.runN k s j
  | m, j, hm, hj => by
    have hlt := h.lt
    by_cases hjs : j < s.size
    · cases hk : kindB k (Go.Proofs.Ytgaganmcfoeejaa.bn s j)
      · rw [runN_stop hk, runN_stop (by rw [h.bn hjs]; exact hk)]
      · rw [runN_step hjs hk, runN_step (by omega) (by rw [h.bn hjs]; exact hk)]
        match m, hm with
        | 0, hm => omega
        | m + 1, hm => exact h.runN k m (j + 1) (by omega) (by omega)
    · have : j = s.size := by omega
      subst this
      rw [runN_end (Nat.le_refl _), runN_stop (kind_blank h.blk)]
theorem Ahead0.lineN {s u : ByteArray} (h : Ahead0 s u) : ∀ (m j : Nat), s.size - j ≤ m → j ≤ s.size → (lineN s j < s.size → lineN u j = Go.Proofs.Ytgaganmcfoeejaa.lineN s j) ∧ (Go.Proofs.Ytgaganmcfoeejaa.lineN s j = s.size → Go.Proofs.Ytgaganmcfoeejaa.lineN u j = Go.Proofs.Ytgaganmcfoeejaa.lineN u s.size)
  | m, j, hm, hj => by
    have hlt := h.lt
    by_cases hjs : j < s.size
    · cases hk : ((Go.Proofs.Ytgaganmcfoeejaa.bn s j : Int) != 10)
      · rw [lineN_stop hk, lineN_stop (by rw [h.bn hjs]; exact hk)]
        exact ⟨fun _ => rfl, fun hh => by omega⟩
      · rw [lineN_step hjs hk, lineN_step (s := u) (j := j) (by omega) (by rw [h.bn hjs]; exact hk)]
        match m, hm with
        | 0, hm => omega
        | m + 1, hm => exact h.lineN m (j + 1) (by omega) (by omega)
    · have : j = s.size := by omega
      subst this
      refine ⟨fun hh => ?_, fun _ => rfl⟩
      rw [lineN_end (Nat.le_refl _)] at hh
      omega
theorem Ahead0.endN {s u : ByteArray} (h : Ahead0 s u) : ∀ (m j : Nat), s.size - j ≤ m → endN s j < s.size → endN u j = Go.Proofs.Ytgaganmcfoeejaa.endN s j
  | m, j, hm, he => by
    have hlt := h.lt
    by_cases hjs : j < s.size
    · cases hk : twoB s j 42 47
      · rw [endN_step hjs hk] at he ⊢
        rw [endN_step (by omega) (by rw [h.two hjs (by decide)]; exact hk)]
        match m, hm with
        | 0, hm => omega
        | m + 1, hm => exact h.endN m (j + 1) (by omega) he
      · rw [endN_stop hk, endN_stop (by rw [h.two hjs (by decide)]; exact hk)]
    · rw [endN_end (by omega)] at he
      omega
theorem Ahead.betN {s u : ByteArray} (h : Ahead s u) : ∀ (m j f : Nat), s.size - j ≤ m → j ≤ s.size → betN s j = (f, true) → (f < s.size → betN u j = (f, true)) ∧ (f = s.size → Go.Proofs.Ytgaganmcfoeejaa.betN u j = Go.Proofs.Ytgaganmcfoeejaa.betN u s.size)
  | m, j, f, hm, hj, hb => by
    have hlt := h.lt
    by_cases hjs : j < s.size
    · rw [betN_eq hjs] at hb
      rw [betN_eq (s := u) (j := j) (by omega), h.bn hjs, h.two hjs (by decide)]
      split at hb
      · rename_i h1
        rw [if_pos h1]
        match m, hm with
        | 0, hm => omega
        | m + 1, hm => exact h.betN m (j + 1) f (by omega) (by omega) hb
      · rename_i h1
        rw [if_neg h1]
        split at hb
        · rename_i h2
          rw [if_pos h2]
          have hg := line_gt hjs h2
          have hle := lineN_le (s := s) (j := j) hj
          have hl := h.lineN _ j (Nat.le_refl _) hj
          by_cases hls : Go.Proofs.Ytgaganmcfoeejaa.lineN s j < s.size
          · rw [hl.1 hls]
            match m, hm with
            | 0, hm => omega
            | m + 1, hm => exact h.betN m _ f (by omega) (by omega) hb
          · have hls' : Go.Proofs.Ytgaganmcfoeejaa.lineN s j = s.size := by omega
            rw [hls', betN_end (Nat.le_refl _)] at hb
            injection hb with hb _
            rw [hl.2 hls']
            exact ⟨fun hh => by omega, fun _ => h.line⟩
        · rename_i h2
          rw [if_neg h2]
          split at hb
          · rename_i h3
            rw [if_pos h3]
            split at hb
            · rename_i h4
              have h5 := h.endN _ (j + 2) (Nat.le_refl _) h4
              have h6 := endN_ge s (j + 2)
              have h7 := twoB_lt (endN_two h4)
              rw [h5, if_pos (by omega)]
              match m, hm with
              | 0, hm => omega
              | m + 1, hm => exact h.betN m _ f (by omega) (by omega) hb
            · injection hb with _ hb; cases hb
          · rename_i h3
            rw [if_neg h3]
            injection hb with hb _
            subst hb
            exact ⟨fun _ => rfl, fun hh => by omega⟩
    · have hjj : j = s.size := by omega
      subst hjj
      rw [betN_end (Nat.le_refl _)] at hb
      injection hb with hb _
      exact ⟨fun hh => by omega, fun _ => rfl⟩
theorem Ahead0.quoN {s u : ByteArray} (h : Ahead0 s u) (i : Nat) (t : List UInt8) (p : Nat) : ∀ (m k : Nat) (b : List UInt8), s.size - k ≤ m → quoN s i k b = .ok t p → quoN u i k b = .ok t p
  | m, k, b, hm, hq => by
    have hlt := h.lt
    by_cases hks : k < s.size
    · rw [quoN_eq hks] at hq
      rw [quoN_eq (s := u) (by omega), h.bn hks, h.two hks (by decide), h.eq k hks]
      split at hq
      · rename_i h1
        rw [if_pos h1]
        match m, hm with
        | 0, hm => omega
        | m + 1, hm => exact h.quoN i t p m _ _ (by omega) hq
      · rename_i h1
        rw [if_neg h1]
        split at hq
        · rename_i h2
          rw [if_pos h2]
          exact hq
        · rename_i h2
          rw [if_neg h2]
          split at hq
          · rename_i h3
            rw [if_pos h3]
            split at hq
            · cases hq
            · rename_i h4
              have h5 : k + 1 < s.size := by omega
              rw [if_neg (by omega), h.bn h5, h.eq _ h5]
              split at hq
              · rename_i h6
                rw [if_pos h6]
                match m, hm with
                | 0, hm => omega
                | m + 1, hm => exact h.quoN i t p m _ _ (by omega) hq
              · rename_i h6
                rw [if_neg h6]
                split at hq
                · rename_i h7
                  rw [if_pos h7]
                  match m, hm with
                  | 0, hm => omega
                  | m + 1, hm => exact h.quoN i t p m _ _ (by omega) hq
                · rename_i h7
                  rw [if_neg h7]
                  split at hq
                  · rename_i h8
                    rw [if_pos h8]
                    match m, hm with
                    | 0, hm => omega
                    | m + 1, hm => exact h.quoN i t p m _ _ (by omega) hq
                  · cases hq
          · rename_i h3
            rw [if_neg h3]
            split at hq
            · cases hq
            · rename_i h4
              rw [if_neg h4]
              match m, hm with
              | 0, hm => omega
              | m + 1, hm => exact h.quoN i t p m _ _ (by omega) hq
    · rw [quoN_end (by omega)] at hq
      cases hq
theorem Ahead0.headN {s u : ByteArray} (h : Ahead0 s u) {f : Nat} (hf : f < s.size) (q : Option Tk) : headN u f q = Go.Proofs.Ytgaganmcfoeejaa.headN s f q := by
  have hlt := h.lt
  have e : (decide (f + 1 = u.size) || blankB (Go.Proofs.Ytgaganmcfoeejaa.bn u (f + 1)) || (Go.Proofs.Ytgaganmcfoeejaa.bn u (f + 1) : Int) == 37) = (decide (f + 1 = s.size) || blankB (Go.Proofs.Ytgaganmcfoeejaa.bn s (f + 1)) || (Go.Proofs.Ytgaganmcfoeejaa.bn s (f + 1) : Int) == 37) := by
    by_cases h1 : f + 1 = s.size
    · rw [decide_eq_true h1, h1, h.blk]
      simp
    · rw [h.bn (by omega : f + 1 < s.size), decide_eq_false h1, decide_eq_false (by omega : ¬ f + 1 = u.size)]
  unfold Go.Proofs.Ytgaganmcfoeejaa.headN
  rw [e, h.bn hf, h.runN 1 _ f (Nat.le_refl _) (by omega), h.runN 2 _ f (Nat.le_refl _) (by omega), h.runN 3 _ f (Nat.le_refl _) (by omega)]
theorem Ahead0.extract {s u : ByteArray} (h : Ahead0 s u) (f d : Nat) (hd : d ≤ s.size) : u.extract f d = s.extract f d := by
  have h1 : s.data.size < u.data.size := h.lt
  have hd' : d ≤ s.data.size := hd
  apply ByteArray.ext
  rw [ByteArray.data_extract, ByteArray.data_extract]
  apply Array.ext
  · rw [Array.size_extract, Array.size_extract]
    omega
  · intro i a b
    rw [Array.size_extract] at a b
    rw [Array.getElem_extract, Array.getElem_extract, bu_get, bu_get]
    exact h.eq _ (by show f + i < s.data.size; omega)
theorem Ahead0.one {s u : ByteArray} (h : Ahead0 s u) {f : Nat} (hf : f < s.size) {l : List Tk} {x : Tk} (hx : oneN s f l = .ok x) : oneN u f l = .ok x := by
  unfold oneN at hx ⊢
  rw [h.headN hf]
  cases hh : Go.Proofs.Ytgaganmcfoeejaa.headN s f l.getLast? with
  | none => rw [hh] at hx; cases hx
  | some q =>
    obtain ⟨K, j⟩ := q
    rw [hh] at hx
    dsimp only at hx ⊢
    split at hx
    · cases hx
    · rename_i hl
      rw [if_neg hl, h.bn hf]
      split at hx
      · rename_i h39
        rw [if_pos h39]
        cases hq : Go.Proofs.Ytgaganmcfoeejaa.quoN s f (f + 1) [] with
        | ok t p =>
          rw [hq] at hx
          rw [h.quoN f t p _ _ _ (Nat.le_refl _) hq]
          exact hx
        | bad p e => rw [hq] at hx; cases hx
      · rename_i h39
        rw [if_neg h39]
        have := headN_ok hh hf (by simpa using h39)
        rw [h.extract f j this.2.2.2]
        exact hx
theorem bet_toks {u : ByteArray} {j j' : Nat} (hj : j < u.size) (hj' : j' ≤ u.size) (h : betN u j = betN u j') (l : List Tk) : toksN u j l = toksN u j' l := by
  by_cases h1 : j' < u.size
  · rw [toksN_one hj, toksN_one h1, h]
  · rw [toksN_end (k := j') (by omega), toksN_one hj, h, betN_end (by omega)]
    dsimp only
    rw [if_pos (by omega)]
/-- A text that stands ahead of a blank: what comes behind it is lexed with its tokens ahead. -/
theorem Ahead.toks {s u : ByteArray} (h : Ahead s u) : ∀ (m k : Nat) (l r : List Tk), s.size - k ≤ m → k ≤ s.size → toksN s k l = .ok r → toksN u k l = toksN u s.size r
  | m, k, l, r, hm, hk, ht => by
    have hlt := h.lt
    by_cases hks : k < s.size
    · rw [toksN_one hks] at ht
      cases hbe : Go.Proofs.Ytgaganmcfoeejaa.betN s k with
      | mk f b =>
        rw [hbe] at ht
        have hge := betN_ge (s := s) (j := k) (by omega)
        rw [hbe] at hge
        dsimp only at hge
        cases b with
        | false => cases ht
        | true =>
          dsimp only at ht
          have hb := h.betN _ k f (Nat.le_refl _) hk hbe
          by_cases hf : f = s.size
          · rw [if_pos hf] at ht
            injection ht with ht
            subst ht
            exact bet_toks (by omega) (by omega) (hb.2 hf) l
          · rw [if_neg hf] at ht
            cases ho : oneN s f l with
            | bad p e => rw [ho] at ht; cases ht
            | ok x =>
              rw [ho] at ht
              have hx := oneN_ok ho (by omega)
              rw [toksN_one (s := u) (k := k) (by omega), hb.1 (by omega)]
              dsimp only
              rw [if_neg (by omega), h.one (by omega) ho]
              match m, hm with
              | 0, hm => omega
              | m + 1, hm => exact h.toks m x.b _ r (by omega) (by omega) ht
    · have hkk : k = s.size := by omega
      subst hkk
      rw [toksN_end (Nat.le_refl _)] at ht
      injection ht with ht
      subst ht
      rfl
theorem lex_toks {s : ByteArray} {r : List Tk} (h : lexN s = .ok r) : toksN s 0 [] = .ok r ∧ s.size ≤ 4096 := by
  unfold lexN at h
  split at h
  · cases h
  · exact ⟨h, by omega⟩
theorem toks_lex {s : ByteArray} {r : List Tk} (h : toksN s 0 [] = .ok r) (hs : s.size ≤ 4096) : lexN s = .ok r := by
  unfold lexN
  rw [if_neg (by omega)]
  exact h
/-- The last token of a text ends ahead of its end: none opens a bracket behind it. -/
theorem lex_last {s : ByteArray} {r : List Tk} (h : lexN s = .ok r) {f : Nat} (hf : s.size < f) : opens r.getLast? f = false := by
  have h1 := (lexN_ok h).2.2
  cases hr : r.getLast? with
  | none => rfl
  | some x =>
    have hx := h1 x (List.mem_of_getLast? hr)
    have := hx.2.2.2.2
    simp only [opens]
    have : (x.b == f) = false := by
      apply Bool.eq_false_iff.2
      intro h
      have : x.b = f := by simpa using h
      omega
    rw [this, Bool.and_false]
/-- A text with a blank behind it and another one: both's tokens. -/
theorem lex_join {s t u : ByteArray} {a b : List Tk} (ha : lexN s = .ok a) (hb : lexN t = .ok b) (hA : Ahead s u) (hS : Alike u t (s.size + 1) 0 t.size) (hn : a.length + b.length ≤ 1000) (hu : u.size ≤ 4096) :
    lexN u = .ok (a ++ b.map (Tk.sh (s.size + 1) 0)) := by
  obtain ⟨h1, _⟩ := lex_toks ha
  obtain ⟨h2, _⟩ := lex_toks hb
  have hsu := hS.su
  refine toks_lex ?_ hu
  rw [hA.toks _ 0 [] a (Nat.le_refl _) (Nat.zero_le _) h1]
  have h3 : betN u s.size = betN u (s.size + 1) := by rw [betN_eq hA.lt, if_pos hA.blk]
  rw [bet_toks hA.lt (by omega) h3]
  obtain ⟨x, hx, _, h5⟩ := hS.toks _ 0 a [] b (Nat.le_refl _) (Nat.zero_le _) (fun f _ => by rw [lex_last ha (by omega)]; rfl) h2
  rw [List.nil_append] at hx
  subst hx
  exact h5 hn
theorem bu_append (a b : ByteArray) (i : Nat) : bu (a ++ b) i = if i < a.size then bu a i else bu b (i - a.size) := by
  obtain ⟨⟨a⟩⟩ := a
  obtain ⟨⟨b⟩⟩ := b
  simp only [bu, ByteArray.data_append, List.append_toArray, List.getD_eq_getElem?_getD]
  have : (ByteArray.mk ⟨a⟩).size = a.length := rfl
  rw [this]
  split
  · rename_i h; rw [List.getElem?_append_left h]
  · rename_i h; rw [List.getElem?_append_right (by omega)]
end Go.Proofs.Ytgaganmcfoeejaa
