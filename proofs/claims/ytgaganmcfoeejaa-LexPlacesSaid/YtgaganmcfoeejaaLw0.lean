/- Plain facts for the laws of layer 3: tokens rise, and hold their texts. -/
import Derived.Test.YtgaganmcfoeejaaL2
namespace Go.Proofs.Ytgaganmcfoeejaa

/-- Tokens rise from a place on, do not overlap, and hold their texts, but for quoted ones. -/
def Rise (s : ByteArray) : Nat → List Tk → Prop
  | _, [] => True
  | e, x :: l => e ≤ x.a ∧ x.a < x.b ∧ x.b ≤ s.size ∧ (((bn s x.a : Int) == 39) = false → x.t = s.extract x.a x.b) ∧ Rise s x.b l
def lastEnd : Nat → List Tk → Nat
  | e, [] => e
  | _, x :: l => lastEnd x.b l
theorem lastEnd_snoc : ∀ (e : Nat) (l : List Tk) (x : Tk), lastEnd e (l ++ [x]) = x.b
  | _, [], _ => rfl
  | _, _ :: l, x => lastEnd_snoc _ l x
theorem Rise.snoc {s : ByteArray} {x : Tk} : ∀ (e : Nat) (l : List Tk), Rise s e l → lastEnd e l ≤ x.a → x.a < x.b → x.b ≤ s.size → (((bn s x.a : Int) == 39) = false → x.t = s.extract x.a x.b) → Rise s e (l ++ [x])
  | _, [], _, h1, h2, h3, h4 => ⟨h1, h2, h3, h4, trivial⟩
  | _, y :: l, h, h1, h2, h3, h4 => ⟨h.1, h.2.1, h.2.2.1, h.2.2.2.1, Rise.snoc y.b l h.2.2.2.2 h1 h2 h3 h4⟩
theorem oneN_text {s : ByteArray} {f : Nat} {l : List Tk} {x : Tk} (h : oneN s f l = .ok x) (hq : ((bn s f : Int) == 39) = false) : x.t = s.extract x.a x.b := by
  unfold oneN at h
  cases hh : headN s f l.getLast? with
  | none => rw [hh] at h; cases h
  | some q =>
    obtain ⟨K, j⟩ := q
    rw [hh] at h
    dsimp only at h
    split at h
    · cases h
    · rw [hq] at h
      injection h with h
      subst h
      rfl
theorem lex_rise {s : ByteArray} {r : List Tk} (h : lexN s = .ok r) : Rise s 0 r := by
  unfold lexN at h
  split at h
  · cases h
  · obtain ⟨_, hp, _⟩ := toks_ind (fun k l => Rise s 0 l ∧ lastEnd 0 l ≤ k) (fun k l f x hk hp hb hf ho => by
      have hx := oneN_ok ho hf
      have hge := betN_ge (s := s) (j := k) (by omega)
      rw [hb] at hge
      dsimp only at hge
      have ha := hx.2.1
      refine ⟨hp.1.snoc 0 l (by omega) (by omega) hx.2.2.2.1 fun hq => oneN_text ho (by rw [ha] at hq; exact hq), ?_⟩
      rw [lastEnd_snoc]
      exact Nat.le_refl _) s.size 0 [] r (by omega) ⟨trivial, Nat.le_refl _⟩ h
    exact hp.1
end Go.Proofs.Ytgaganmcfoeejaa
