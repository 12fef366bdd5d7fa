/- Plain facts for the law LexAtoms: quoted names with blanks between. -/
import Derived.Test.YtgaganmcfoeejaaLq0
namespace Go.Proofs.Ytgaganmcfoeejaa

/-- Quoted names, each with a blank behind it. -/
def catL : List ByteArray → ByteArray
  | [] => ⟨#[]⟩
  | n :: l => quoteN n ++ ⟨#[32]⟩ ++ catL l
theorem app_nil (a : ByteArray) : a ++ (⟨#[]⟩ : ByteArray) = a := by
  apply bytes_same
  rw [ByteArray.data_append, Array.toList_append]
  simp
theorem nil_app (a : ByteArray) : (⟨#[]⟩ : ByteArray) ++ a = a := by
  apply bytes_same
  rw [ByteArray.data_append, Array.toList_append]
  simp
theorem catL_snoc : ∀ (l : List ByteArray) (n : ByteArray), catL (l ++ [n]) = catL l ++ quoteN n ++ ⟨#[32]⟩
  | [], n => by simp only [List.nil_append, catL, app_nil, nil_app]
  | a :: l, n => by simp only [List.cons_append, catL, catL_snoc l n, ByteArray.append_assoc]
def Tk.kt (x : Tk) : Int × ByteArray := (x.k, x.t)
theorem sh_kt (o o' : Nat) (l : List Tk) : (l.map (Tk.sh o o')).map Tk.kt = l.map Tk.kt := by
  rw [List.map_map]
  rfl
theorem bet_zero {s : ByteArray} (h : betN s 0 = (0, true)) (hs : 0 < s.size) : blankB (bn s 0) = false ∧ ((bn s 0 : Int) == 37) = false ∧ twoB s 0 47 42 = false := by
  rw [betN_eq hs] at h
  have g1 : blankB (bn s 0) = false := by
    cases hbl : blankB (bn s 0) with
    | false => rfl
    | true =>
      rw [if_pos hbl] at h
      have := betN_ge (s := s) (j := 0 + 1) (by omega)
      rw [h] at this
      dsimp only at this
      omega
  rw [g1] at h
  simp only [Bool.false_eq_true, if_false] at h
  have g2 : ((bn s 0 : Int) == 37) = false := by
    cases h37 : ((bn s 0 : Int) == 37) with
    | false => rfl
    | true =>
      rw [if_pos h37] at h
      have h2 := line_gt hs h37
      have := betN_ge (s := s) (j := lineN s 0) (lineN_le (by omega))
      rw [h] at this
      dsimp only at this
      omega
  refine ⟨g1, g2, ?_⟩
  rw [g2] at h
  simp only [Bool.false_eq_true, if_false] at h
  cases hbl : twoB s 0 47 42 with
  | false => rfl
  | true =>
    rw [if_pos hbl] at h
    have h8 := endN_ge s (0 + 2)
    split at h
    · rename_i h9
      have h10 := twoB_lt (endN_two h9)
      have := betN_ge (s := s) (j := endN s (0 + 2) + 2) (by omega)
      rw [h] at this
      dsimp only at this
      omega
    · injection h with _ h; cases h
theorem lex_first {s : ByteArray} {x : Tk} (h : lexN s = .ok [x]) (ha : x.a = 0) : 0 < s.size ∧ betN s 0 = (0, true) ∧ oneN s 0 [] = .ok x := by
  obtain ⟨ht0, hs2⟩ := lex_toks h
  by_cases hs : 0 < s.size
  · rw [toksN_one hs] at ht0
    have hge := betN_ge (s := s) (j := 0) (by omega)
    cases hbe : betN s 0 with
    | mk f b =>
      rw [hbe] at ht0 hge
      dsimp only at hge
      cases b with
      | false => cases ht0
      | true =>
        dsimp only at ht0
        by_cases hf : f = s.size
        · rw [if_pos hf] at ht0; injection ht0 with ht0; cases ht0
        · rw [if_neg hf] at ht0
          cases ho : oneN s f [] with
          | bad p e => rw [ho] at ht0; cases ht0
          | ok y =>
            rw [ho] at ht0
            dsimp only at ht0
            have hyx : y = x := by
              obtain ⟨_, hp, _⟩ := toks_ind (s := s) (fun _ l => ∃ r, l = y :: r) (fun k l f x _ hp _ _ _ => by obtain ⟨r, rfl⟩ := hp; exact ⟨r ++ [x], rfl⟩) _ _ _ _ (Nat.le_refl _) ⟨[], rfl⟩ ht0
              obtain ⟨r, hr⟩ := hp
              injection hr with h1 _
              exact h1.symm
            subst hyx
            have hf0 : f = 0 := by rw [← ha]; exact (oneN_ok ho (by omega)).2.1.symm
            subst hf0
            exact ⟨hs, rfl, ho⟩
  · rw [toksN_end (by omega)] at ht0
    injection ht0 with ht0
    cases ht0
theorem lex_cat : ∀ (l : List ByteArray), (∀ n ∈ l, n.size ≤ 2000 ∧ (quoteN n).size ≠ 0) → (catL l).size ≤ 4096 → l.length ≤ 1000 → ∃ r, lexN (catL l) = .ok r ∧ r.map Tk.kt = l.map fun n => ((1 : Int), n)
  | [], _, _, _ => ⟨[], toks_lex (toksN_end (Nat.le_refl _)) (by decide), rfl⟩
  | n :: l, hg, hz, hl => by
    have h32 : (ByteArray.mk #[32]).size = 1 := rfl
    have hsz : (catL (n :: l)).size = (quoteN n).size + 1 + (catL l).size := by simp only [catL, ByteArray.size_append, h32]
    obtain ⟨hn, hq⟩ := hg n (by simp)
    obtain ⟨hx, hpos, _⟩ := lex_quote hn hq
    obtain ⟨_, hb0, ho⟩ := lex_first hx rfl
    simp only [List.length_cons] at hl
    obtain ⟨r, hr, hm⟩ := lex_cat l (fun m hm => hg m (by simp [hm])) (by omega) (by omega)
    obtain ⟨u, hu⟩ : ∃ u, u = catL (n :: l) := ⟨_, rfl⟩
    obtain ⟨q, hqe⟩ : ∃ q, q = quoteN n := ⟨_, rfl⟩
    have hp : (quoteN n ++ (⟨#[32]⟩ : ByteArray)).size = (quoteN n).size + 1 := by rw [ByteArray.size_append, h32]
    have e1 : ∀ i, i < q.size → bu u i = bu q i := fun i hi => by
      rw [hu, hqe]
      simp only [catL]
      rw [bu_append, if_pos (by rw [hp, ← hqe]; omega), bu_append, if_pos (by rw [← hqe]; exact hi)]
    have e2 : bu u q.size = 32 := by
      rw [hu, hqe]
      simp only [catL]
      rw [bu_append, if_pos (by rw [hp]; omega), bu_append, if_neg (by omega), Nat.sub_self]
      rfl
    have e3 : ∀ i, bu u (q.size + 1 + i) = bu (catL l) (0 + i) := fun i => by
      rw [hu, hqe]
      simp only [catL]
      rw [bu_append, if_neg (by rw [hp]; omega), hp, Nat.add_sub_cancel_left, Nat.zero_add]
    rw [← hqe] at hsz hx hpos hb0 ho
    rw [← hu] at hsz hz ⊢
    have A : Ahead0 q u := ⟨by omega, e1, by rw [bn_bu, e2]; rfl⟩
    have S : Alike u (catL l) (q.size + 1) 0 (catL l).size := ⟨by omega, by omega, e3⟩
    obtain ⟨z1, z2, z3⟩ := bet_zero hb0 hpos
    have hbu : betN u 0 = (0, true) := bet_none (by omega) (by rw [A.bn hpos]; exact z1) (by rw [A.bn hpos]; exact z2) (by rw [A.two hpos (by decide)]; exact z3)
    obtain ⟨ht, _⟩ := lex_toks hr
    obtain ⟨y, hy, _, h5⟩ := S.toks _ 0 [⟨1, n, 0, q.size⟩] [] r (Nat.le_refl _) (Nat.zero_le _) (fun f _ => by
      simp only [List.getLast?_singleton, opens, List.getLast?_nil]
      rw [beq_eq_false_iff_ne.2 (by omega : q.size ≠ q.size + 1 + f), Bool.and_false]) ht
    rw [List.nil_append] at hy
    subst hy
    have hrl : r.length = l.length := by have := congrArg List.length hm; simpa using this
    refine ⟨[⟨1, n, 0, q.size⟩] ++ r.map (Tk.sh (q.size + 1) 0), toks_lex ?_ hz, ?_⟩
    · rw [toksN_one (by omega), hbu]
      dsimp only
      rw [if_neg (by omega), A.one hpos ho]
      dsimp only
      have h3 : betN u q.size = betN u (q.size + 1) := by rw [betN_eq A.lt, if_pos A.blk]
      rw [bet_toks A.lt (by omega) h3]
      exact h5 (by simp; omega)
    · rw [List.map_append, sh_kt, hm]
      rfl
end Go.Proofs.Ytgaganmcfoeejaa
