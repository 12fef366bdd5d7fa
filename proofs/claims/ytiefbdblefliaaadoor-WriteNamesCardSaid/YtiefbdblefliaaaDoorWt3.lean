/- A written text, read back: plain. -/
import Derived.Test.YtiefbdblefliaaaDoorGw
import Derived.Test.YtiefbdblefliaaaDoorRd14
namespace Go.Proofs.YtiefbdblefliaaaDoor
open Go.RowKit

/-- No token of them is an end. -/
def noEnd (l : List Tk) : Prop := ∀ x ∈ l, x.k ≠ 6
theorem noEnd.app {a b : List Tk} (h : noEnd a) (h' : noEnd b) : noEnd (a ++ b) := fun x hx => (List.mem_append.1 hx).elim (h x) (h' x)
theorem noEnd.cons {x : Tk} {b : List Tk} (h : x.k ≠ 6) (h' : noEnd b) : noEnd (x :: b) := fun y hy => (List.mem_cons.1 hy).elim (fun e => e ▸ h) (h' y)
theorem noEnd.nil : noEnd [] := fun _ h => by cases h
theorem Mk.no {x : Tk} {c : UInt8} (h : Mk x c) : x.k ≠ 6 := by rw [h.1]; decide
theorem rest_noEnd {f : Nat → List Tk → Prop} : ∀ (r j : Nat) (l : List Tk), (∀ i, i < j + r → ∀ l, f i l → noEnd l) → restTk f j r l → noEnd l
  | 0, _, l, _, h => by obtain rfl : l = [] := h
                        exact noEnd.nil
  | r + 1, j, l, hf, h => by
    obtain ⟨c, l0, l1, rfl, hc, h0, h1⟩ := h
    exact .cons hc.no (.app (hf j (by omega) _ h0) (rest_noEnd r (j + 1) l1 (fun i hi => hf i (by omega)) h1))
theorem tk_noEnd {V : Int → List UInt8} : ∀ (t : T), t.wr → (∀ l, (tkB V t).1 l → noEnd l ∧ l ≠ []) ∧ ∀ l, (tkB V t).2 l → noEnd l := by
  intro t
  induction t with
  | nil => exact fun h => h.elim
  | mk k n s m a ih =>
    intro hw
    have main : ∀ l, (tkB V (.mk k n s m a)).1 l → noEnd l ∧ l ≠ [] := by
      intro l h
      rcases hw with ⟨rfl, _⟩ | ⟨rfl, _⟩ | ⟨rfl, _⟩ | ⟨rfl, _, hm, hwa⟩
      · rw [tk_var] at h
        obtain ⟨x, rfl, hx, _⟩ := h
        exact ⟨.cons (by rw [hx]; decide) .nil, by simp⟩
      · by_cases hn : n < 0
        · rw [tk_neg _ hn] at h
          obtain ⟨x, y, rfl, hx, _, hy, _⟩ := h
          exact ⟨.cons (by rw [hx]; decide) (.cons (by rw [hy]; decide) .nil), by simp⟩
        · rw [tk_pos _ hn] at h
          obtain ⟨x, rfl, hx, _⟩ := h
          exact ⟨.cons (by rw [hx]; decide) .nil, by simp⟩
      · by_cases h1 : s = nilS
        · subst h1
          rw [tk_nil] at h
          obtain ⟨x, y, rfl, hx, hy⟩ := h
          exact ⟨.cons hx.no (.cons hy.no .nil), by simp⟩
        · by_cases h2 : s = curS
          · subst h2
            rw [tk_cur] at h
            obtain ⟨x, y, rfl, hx, hy⟩ := h
            exact ⟨.cons hx.no (.cons hy.no .nil), by simp⟩
          · rw [tk_atom _ h1 h2] at h
            obtain ⟨x, rfl, hx, _⟩ := h
            exact ⟨.cons (by rw [hx]; decide) .nil, by simp⟩
      · by_cases hp : s = dotS ∧ m = 2
        · obtain ⟨rfl, rfl⟩ := hp
          rw [tk_pair] at h
          obtain ⟨x, y, l0, l1, rfl, hx, hy, h0, h1⟩ := h
          exact ⟨.cons hx.no (.app ((ih 0 (hwa 0 (by omega))).1 _ h0).1 (.app ((ih 1 (hwa 1 (by omega))).2 _ h1) (.cons hy.no .nil))), by simp⟩
        · rw [tk_cmp _ hp] at h
          obtain ⟨x, y, z, l0, l1, rfl, hx, _, hy, hz, h0, h1⟩ := h
          exact ⟨.cons (by rw [hx]; decide) (.cons (by rw [hy]; decide) (.app ((ih 0 (hwa 0 hm)).1 _ h0).1 (.app (rest_noEnd (m - 1) 1 l1 (fun i hi l hl => ((ih i (hwa i (by omega))).1 l hl).1) h1) (.cons hz.no .nil)))), by simp⟩
    refine ⟨main, fun l h => ?_⟩
    by_cases hp : k = 4 ∧ s = dotS ∧ m = 2
    · obtain ⟨rfl, rfl, rfl⟩ := hp
      have hwa : ∀ i, i < 2 → (a i).wr := by
        rcases hw with ⟨h, _⟩ | ⟨h, _⟩ | ⟨h, _⟩ | h
        · exact absurd h (by decide)
        · exact absurd h (by decide)
        · exact absurd h (by decide)
        · exact h.2.2.2
      rw [tl_pair] at h
      obtain ⟨c, l0, l1, rfl, hc, h0, h1⟩ := h
      exact .cons hc.no (.app ((ih 0 (hwa 0 (by omega))).1 _ h0).1 ((ih 1 (hwa 1 (by omega))).2 _ h1))
    · by_cases h2 : k = 3 ∧ s = nilS
      · obtain ⟨rfl, rfl⟩ := h2
        rw [tl_nil] at h
        subst h
        exact .nil
      · rw [tl_else _ hp h2] at h
        obtain ⟨c, l0, rfl, hc, h0⟩ := h
        exact .cons hc.no (main _ h0).1
/-- A blank, then the end. -/
theorem toks_end {u : ByteArray} {p : Nat} {l : List Tk} (h : u.data.toList.drop p = [32, 46]) (hl : l.length ≤ 1000) :
    (toksN u p l = .ok (l ++ [⟨6, ba [46], p + 1, p + 2⟩]) ∧ (l ++ [(⟨6, ba [46], p + 1, p + 2⟩ : Tk)]).length ≤ 1000) ∨ (l.length = 1000 ∧ ∃ q, toksN u p l = .bad q 34) := by
  have h1 : u.data.toList.drop (p + 1) = [46] := drop_more (A := [32]) (B := [46]) h
  have h2 : u.size = p + 2 := by
    have e := congrArg List.length h
    rw [List.length_drop, len_u] at e
    have := drop_lt h (by simp)
    simp at e
    omega
  have b0 : (bn u p : Int) = 32 := bn_here h
  have b1 : (bn u (p + 1) : Int) = 46 := bn_here h1
  have e : toksN u p l = toksN u (p + 1) l := by
    rw [toksN_one (by omega), toksN_one (by omega), betN_eq (j := p) (by omega), if_pos (by rw [b0]; decide)]
  rw [e]
  have c46 : blankB 46 = false ∧ ((46 : Int) == 37) = false ∧ ((46 : Int) == 47) = false ∧ ((46 : Int) == 39) = false := by decide
  rcases toks_word (u := u) (p := p + 1) (W := [46]) (R := []) (K := 6) (l := l) h1 (by simp) (by rw [b1]; exact c46.1) (by rw [b1]; exact c46.2.1) (two_first (by rw [b1]; exact c46.2.2.1)) (by rw [b1]; exact c46.2.2.2) (by
      unfold headN
      rw [if_pos (by rw [b1]; simp; omega)]
      rfl) hl with ⟨h3, h4⟩ | h3
  · exact .inl ⟨h3.trans (toksN_end (by show u.size ≤ p + 1 + 1; omega)), h4⟩
  · exact .inr h3
/-- What may be wrong with a text that was written: it is long, has many tokens (not if X), or is deep. -/
def Back (X : Prop) (t : T) (s : ByteArray) (x : T × List ByteArray) : Prop := sentN s = .ok x ∨ ∃ p e, sentN s = .error (p, e) ∧ ((e = 33 ∧ 4094 < s.size) ∨ (e = 34 ∧ ¬ X) ∨ (e = 52 ∧ 65 < (lvB t).1))
theorem sent_back {X : Prop} {V : Int → List UInt8} (hV : VarOk V) {t : T} (hw : t.wr) {s : ByteArray} (hs : s = ba (txB V t).1)
    (hX : X → ∀ (u : ByteArray) (R : List UInt8), R = [] ∨ R = [32, 46] → u.data.toList = (txB V t).1 ++ R → ∃ tks, (tkB V t).1 tks ∧ toksN u 0 [] = toksN u (0 + (txB V t).1.length) tks ∧ tks.length ≤ 900) : Back X t s (rnT V t []) := by
  have hd : s.data.toList = (txB V t).1 := by rw [hs]; simp [ba]
  by_cases h33 : 4096 < s.size
  · exact .inr ⟨_, _, sent_bad (by unfold lexN; rw [if_pos h33]), .inl ⟨rfl, by omega⟩⟩
  have hlen : (txB V t).1.length = s.size := by rw [← hd]; exact len_u s
  have lex : ∀ (u : ByteArray) (R : List UInt8), R = [] ∨ R = [32, 46] → u.data.toList = (txB V t).1 ++ R → (∃ tks, (tkB V t).1 tks ∧ toksN u 0 [] = toksN u (0 + (txB V t).1.length) tks ∧ tks.length ≤ 1000 ∧ (X → tks.length ≤ 900)) ∨ (¬ X ∧ ∃ q, toksN u 0 [] = .bad q 34) := fun u R hR hu => by
    by_cases hx : X
    · obtain ⟨tks, h1, h2, h3⟩ := hX hx u R hR hu
      exact .inl ⟨tks, h1, h2, by omega, fun _ => h3⟩
    · rcases (lex_term hV (u := u) t hw).1 (p := 0) (R := R) (l := []) (by simpa using hu) (by
          rcases hR with rfl | rfl
          · exact .inl rfl
          · exact .inr ⟨32, [46], rfl, by decide⟩) (by simp) with ⟨tks, htk, h1, h2⟩ | ⟨q, h1⟩
      · exact .inl ⟨tks, htk, by rw [h1, List.nil_append], h2, fun h => absurd h hx⟩
      · exact .inr ⟨hx, q, h1⟩
  rcases (lex s [] (.inl rfl) (by simpa using hd)).symm with ⟨hx, q, h1⟩ | ⟨tks, htk, h1, h2, _⟩
  · exact .inr ⟨_, _, sent_bad (by unfold lexN; rw [if_neg h33]; exact h1), .inr (.inl ⟨rfl, hx⟩)⟩
  have hlex : lexN s = .ok tks := by
    unfold lexN
    rw [if_neg h33, h1]
    exact toksN_end (by omega)
  obtain ⟨hne, hnn⟩ := (tk_noEnd t hw).1 _ htk
  have hend : endedN tks s = s ++ ⟨#[32, 46]⟩ := by
    unfold endedN
    cases hl : tks.getLast? with
    | none => rfl
    | some x => dsimp only; rw [if_neg (hne x (List.mem_of_getLast? hl))]
  obtain ⟨u, hu⟩ : ∃ u : ByteArray, s ++ ⟨#[32, 46]⟩ = u := ⟨_, rfl⟩
  rw [hu] at hend
  have hdu : u.data.toList = (txB V t).1 ++ [32, 46] := by rw [← hu, ← hd]; simp
  have hus : u.size = s.size + 2 := by rw [← len_u u, hdu, List.length_append, hlen]; rfl
  have bad : ∀ p e, readN u = .error (p, e) → ((e = 33 ∧ 4094 < s.size) ∨ (e = 34 ∧ ¬ X) ∨ (e = 52 ∧ 65 < (lvB t).1)) → Back X t s (rnT V t []) := fun p e h he => .inr ⟨_, _, sent_err hlex hend h, he⟩
  by_cases g33 : 4096 < u.size
  · exact bad _ _ (show readN u = .error (0, 33) by unfold readN lexN; rw [if_pos g33]; rfl) (.inl ⟨rfl, by omega⟩)
  rcases (lex u [32, 46] (.inr rfl) hdu).symm with ⟨hx, q, g1⟩ | ⟨tk2, htk2, g1, g2, g9⟩
  · exact bad _ _ (show readN u = .error ((q : Int), 34) by unfold readN lexN; rw [if_neg g33, g1]) (.inr (.inl ⟨rfl, hx⟩))
  rcases (toks_end (u := u) (p := 0 + (txB V t).1.length) (l := tk2) (by rw [Nat.zero_add, hdu]; simp) g2).symm with ⟨gl, q, g3⟩ | ⟨g3, g4⟩
  · exact bad _ _ (show readN u = .error ((q : Int), 34) by unfold readN lexN; rw [if_neg g33, g1, g3]) (.inr (.inl ⟨rfl, fun hx => by have := g9 hx; omega⟩))
  obtain ⟨z, hz⟩ : ∃ z : Tk, (⟨6, ba [46], 0 + (txB V t).1.length + 1, 0 + (txB V t).1.length + 2⟩ : Tk) = z := ⟨_, rfl⟩
  have hz6 : z.k = 6 := by rw [← hz]
  rw [hz] at g3
  have hlex2 : lexN u = .ok (tk2 ++ [z]) := by unfold lexN; rw [if_neg g33, g1]; exact g3
  obtain ⟨_, hnn2⟩ := (tk_noEnd t hw).1 _ htk2
  have hl2 : 0 < tk2.length := List.length_pos_iff.2 hnn2
  have e0 : readN u = readC (tk2 ++ [z]) u.size ((tk2 ++ [z]).length) 0 [] := by unfold readN; rw [hlex2]
  have e1 : (tk2 ++ [z]).length = tk2.length + 1 := by simp
  have hz2 : nxT (tk2 ++ [z]) u.size tk2.length = z := nx_at (r := []) (by simp)
  rcases (term_ok (tk := tk2 ++ [z]) (sz := u.size) (V := V) t hw).1 tk2 htk2 65 0 [] 1200 [z] (by simp) (by omega) (closeT.of [] (.inl hz6)) with hr | ⟨hlv, p, hr⟩
  · refine .inl (sent_one hlex hend ?_)
    rw [e0, e1]
    obtain ⟨f, hf⟩ : ∃ f, tk2.length = f + 1 := ⟨tk2.length - 1, by omega⟩
    unfold readC
    rw [if_pos (by omega), hr]
    dsimp only
    rw [if_pos (by rw [Nat.zero_add, hz2]; exact hz6), hf]
    unfold readC
    rw [if_neg (by rw [e1]; omega)]
    rfl
  · refine bad p 52 ?_ (.inr (.inr ⟨rfl, by omega⟩))
    rw [e0, e1]
    unfold readC
    rw [if_pos (by omega), hr]
end Go.Proofs.YtiefbdblefliaaaDoor
