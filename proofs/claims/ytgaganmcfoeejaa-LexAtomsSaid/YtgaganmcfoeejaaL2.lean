/- The plain lexer, token by token; what its tokens are. -/
import Derived.Test.YtgaganmcfoeejaaL0
namespace Go.Proofs.Ytgaganmcfoeejaa

inductive OneR where
  | ok (x : Tk)
  | bad (p : Nat) (e : Int)
/-- One token, from its first byte on. -/
def oneN (s : ByteArray) (f : Nat) (l : List Tk) : OneR :=
  match headN s f l.getLast? with
  | none => .bad f 30
  | some (K, j) =>
    if l.length = 1000 then .bad f 34
    else if (bn s f : Int) == 39 then
      match quoN s f (f + 1) [] with
      | .ok t p => .ok ⟨K, ⟨t.toArray⟩, f, p⟩
      | .bad p e => .bad p e
    else .ok ⟨K, s.extract f j, f, j⟩
theorem toksN_one {s : ByteArray} {k : Nat} {l : List Tk} (h : k < s.size) : toksN s k l =
    match betN s k with
    | (f, false) => .bad f 31
    | (f, true) => if f = s.size then .ok l else match oneN s f l with
      | .ok x => toksN s x.b (l ++ [x])
      | .bad p e => .bad p e := by
  rw [toksN_eq h]
  unfold oneN
  cases betN s k with
  | mk f ok =>
    cases ok with
    | false => rfl
    | true =>
      dsimp only
      by_cases hf : f = s.size
      · rw [if_pos hf, if_pos hf]
      · rw [if_neg hf, if_neg hf]
        cases headN s f l.getLast? with
        | none => rfl
        | some q =>
          obtain ⟨K, j⟩ := q
          dsimp only
          split
          · rfl
          · split
            · cases quoN s f (f + 1) [] <;> rfl
            · rfl
theorem oneN_ok {s : ByteArray} {f : Nat} {l : List Tk} {x : Tk} (h : oneN s f l = .ok x) (hf : f < s.size) : x.ok s.size ∧ x.a = f ∧ f < x.b ∧ x.b ≤ s.size ∧ l.length ≠ 1000 := by
  unfold oneN at h
  cases hh : headN s f l.getLast? with
  | none => rw [hh] at h; cases h
  | some q =>
    obtain ⟨K, j⟩ := q
    rw [hh] at h
    dsimp only at h
    have hk := headN_kind hh
    split at h
    · cases h
    · rename_i hl
      split at h
      · cases hq : quoN s f (f + 1) [] with
        | ok t p =>
          rw [hq] at h
          injection h with h
          subst h
          have := quoF_ok _ _ _ _ _ _ _ (by simp) (Nat.zero_le _) hq
          refine ⟨⟨hk.1, hk.2, ?_, by show f < p; omega, this.2.1⟩, rfl, by show f < p; omega, this.2.1, hl⟩
          show t.toArray.size ≤ _
          simp
          omega
        | bad p e => rw [hq] at h; cases h
      · rename_i h39
        injection h with h
        subst h
        have := headN_ok hh hf (by simpa using h39)
        refine ⟨⟨hk.1, hk.2, ?_, this.2.2.1, this.2.2.2⟩, rfl, this.2.2.1, this.2.2.2, hl⟩
        show (s.extract f j).size ≤ _
        rw [ByteArray.size_extract]
        omega
/-- A law for all ways of the lexer: what holds of what was gathered holds of all. -/
theorem toks_ind {s : ByteArray} (P : Nat → List Tk → Prop) (step : ∀ k l f x, k < s.size → P k l → betN s k = (f, true) → f < s.size → oneN s f l = .ok x → P x.b (l ++ [x])) :
    ∀ (n k : Nat) (l r : List Tk), s.size - k ≤ n → P k l → toksN s k l = .ok r → ∃ k', P k' r ∧ (s.size ≤ k' ∨ betN s k' = (s.size, true))
  | n, k, l, r, hn, hp, h => by
    by_cases hk : k < s.size
    · rw [toksN_one hk] at h
      have hb := betN_ge (s := s) (j := k) (by omega)
      cases hbe : betN s k with
      | mk f ok =>
        rw [hbe] at h hb
        dsimp only at hb
        cases ok with
        | false => cases h
        | true =>
          dsimp only at h
          by_cases hf : f = s.size
          · rw [if_pos hf] at h
            injection h with h
            subst h
            exact ⟨k, hp, .inr (by rw [hbe, hf])⟩
          · rw [if_neg hf] at h
            cases ho : oneN s f l with
            | bad p e => rw [ho] at h; cases h
            | ok x =>
              rw [ho] at h
              have hx := oneN_ok ho (by omega)
              match n, hn with
              | 0, hn => omega
              | n + 1, hn => exact toks_ind P step n x.b _ r (by omega) (step k l f x hk hp hbe (by omega) ho) h
    · rw [toksN_end (by omega)] at h
      injection h with h
      subst h
      exact ⟨k, hp, .inl (by omega)⟩
theorem lexN_ok {s : ByteArray} {r : List Tk} (h : lexN s = .ok r) : r.length ≤ 1000 ∧ s.size ≤ 4096 ∧ ∀ x ∈ r, x.ok s.size := by
  unfold lexN at h
  split at h
  · cases h
  · rename_i hs
    obtain ⟨_, hp, _⟩ := toks_ind (fun _ l => l.length ≤ 1000 ∧ ∀ x ∈ l, x.ok s.size) (fun k l f x _ hp _ hf ho => by
      have hx := oneN_ok ho hf
      refine ⟨by simp; omega, fun y hy => ?_⟩
      rcases List.mem_append.1 hy with h1 | h1
      · exact hp.2 y h1
      · simp at h1; subst h1; exact hx.1) s.size 0 [] r (by omega) ⟨by simp, by simp⟩ h
    exact ⟨hp.1, by omega, hp.2⟩
theorem betF_blank : ∀ (n : Nat) (s : ByteArray) (j f : Nat), betF n s j = (f, true) → f < s.size → s.size ≤ j + n → blankB (bn s f) = false
  | 0, s, j, f, h, hf, hn => by unfold betF at h; injection h with h _; omega
  | n + 1, s, j, f, h, hf, hn => by
    unfold betF at h
    by_cases hj : j < s.size
    · rw [if_pos hj] at h
      split at h
      · exact betF_blank n s _ f h hf (by omega)
      · rename_i hb
        split at h
        · rename_i h37
          have := line_gt hj h37
          exact betF_blank n s _ f h hf (by omega)
        · split at h
          · have := endN_ge s (j + 2)
            split at h
            · exact betF_blank n s _ f h hf (by omega)
            · injection h with _ h; cases h
          · injection h with h _
            subst h
            simpa using hb
    · rw [if_neg hj] at h
      injection h with h _
      omega
theorem betN_blank {s : ByteArray} {j f : Nat} (h : betN s j = (f, true)) (hf : f < s.size) : blankB (bn s f) = false := betF_blank _ s j f h hf (by omega)
end Go.Proofs.Ytgaganmcfoeejaa
