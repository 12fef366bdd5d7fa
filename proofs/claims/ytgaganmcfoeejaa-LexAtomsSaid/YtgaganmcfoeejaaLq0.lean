/- Plain facts on quoting: which names stand without quotes; what a quoted name is read as. -/
import Derived.Test.YtgaganmcfoeejaaLw1
import Derived.Test.YtgaganmcfoeejaaLp0
namespace Go.Proofs.Ytgaganmcfoeejaa

/-- One byte within quotes. -/
def esc1 (c : UInt8) : Option (List UInt8) :=
  if c = 10 then some [92, 110] else if c = 9 then some [92, 116] else if c = 92 ∨ c = 39 then some [92, c]
  else if c.toNat < 32 ∨ 126 < c.toNat then none else some [c]
def escN : List UInt8 → Option (List UInt8)
  | [] => some []
  | c :: l => match esc1 c, escN l with
    | some x, some y => some (x ++ y)
    | _, _ => none
/-- Does a name stand without quotes? -/
def plainN (s : ByteArray) : Bool := decide (0 < s.size) &&
  (if smallB (bn s 0) then decide (runN 1 s 0 = s.size)
   else if signB (bn s 0) then !(decide (s.size = 1) && (bn s 0 : Int) == 46) && !(twoB s 0 47 42) && decide (runN 3 s 0 = s.size)
   else ((bn s 0 : Int) == 33 || (bn s 0 : Int) == 59) && decide (s.size = 1))
/-- What a quoted text is. -/
def quotedN (l : List UInt8) : ByteArray := ⟨(39 :: (l ++ [39])).toArray⟩
def quoteN (s : ByteArray) : ByteArray := if plainN s then s else match escN s.data.toList with
  | some l => quotedN l
  | none => ⟨#[]⟩
theorem escN_snoc : ∀ (l : List UInt8) (c : UInt8), escN (l ++ [c]) = match escN l, esc1 c with
    | some x, some y => some (x ++ y)
    | _, _ => none
  | [], c => by
    simp only [List.nil_append, escN]
    cases esc1 c <;> simp
  | a :: l, c => by
    simp only [List.cons_append, escN, escN_snoc l c]
    cases esc1 a <;> cases escN l <;> cases esc1 c <;> simp
theorem escN_none : ∀ (l r : List UInt8), escN l = none → escN (l ++ r) = none
  | [], _, h => by cases h
  | a :: l, r, h => by
    simp only [List.cons_append, escN] at h ⊢
    cases ha : esc1 a with
    | none => rfl
    | some x =>
      cases hl : escN l with
      | none => rw [escN_none l r hl]
      | some y => rw [ha, hl] at h; cases h
theorem esc1_len {c : UInt8} {x : List UInt8} (h : esc1 c = some x) : x.length ≤ 2 := by
  unfold esc1 at h
  repeat' split at h
  all_goals first | (injection h with h; subst h; simp) | cases h
theorem escN_len : ∀ (l x : List UInt8), escN l = some x → x.length ≤ 2 * l.length
  | [], x, h => by injection h with h; subst h; simp
  | a :: l, x, h => by
    simp only [escN] at h
    cases ha : esc1 a with
    | none => rw [ha] at h; cases h
    | some y =>
      cases hl : escN l with
      | none => rw [ha, hl] at h; cases h
      | some z =>
        rw [ha, hl] at h
        injection h with h
        subst h
        have := esc1_len ha
        have := escN_len l z hl
        simp
        omega
theorem take_succ (s : ByteArray) {k : Nat} (hk : k < s.size) : s.data.toList.take (k + 1) = s.data.toList.take k ++ [bu s k] := by
  have h : k < s.data.toList.length := by rw [list_len]; exact hk
  rw [List.take_succ_eq_append_getElem h]
  congr 2
  have := list_at s hk
  rw [List.getElem?_eq_getElem h] at this
  injection this
/-- The bytes of a text that is told as a list. -/
theorem bu_list (a b : List UInt8) (j : Nat) : bu ⟨(a ++ b).toArray⟩ (a.length + j) = b.getD j 0 := by
  simp only [bu, List.getD_eq_getElem?_getD]
  rw [List.getElem?_append_right (by omega), Nat.add_sub_cancel_left]
theorem bu_mk (l : List UInt8) (j : Nat) : bu ⟨l.toArray⟩ j = l.getD j 0 := rfl
theorem bn_val {s : ByteArray} {i : Nat} {c : UInt8} (h : bu s i = c) : (bn s i : Int) = (c.toNat : Int) := by rw [bn_bu, h]
theorem byte_eq (c d : UInt8) : (((c.toNat : Nat) : Int) == ((d.toNat : Nat) : Int)) = decide (c = d) := by
  rw [Bool.eq_iff_iff, beq_iff_eq, decide_eq_true_eq]
  exact ⟨fun h => UInt8.toNat_inj.1 (by omega), fun h => by rw [h]⟩
/-- The scan of a quoted text: from within it to its end. -/
theorem quo_esc (i : Nat) : ∀ (r x pre b : List UInt8), escN r = some x → quoN ⟨(pre ++ (x ++ [39])).toArray⟩ i pre.length b = .ok (b ++ r) (pre.length + x.length + 1)
  | [], x, pre, b, h => by
    injection h with h
    subst h
    have hs : (ByteArray.mk (pre ++ ([] ++ [39])).toArray).size = pre.length + 1 := by show (pre ++ ([] ++ [39])).length = _; simp
    have h0 := bu_list pre ([] ++ [39]) 0
    rw [Nat.add_zero] at h0
    have h1 : (bn ⟨(pre ++ ([] ++ [39])).toArray⟩ pre.length : Int) = 39 := by rw [bn_bu, h0]; rfl
    have h2 : twoB ⟨(pre ++ ([] ++ [39])).toArray⟩ pre.length 39 39 = false := by unfold twoB; rw [decide_eq_false (by omega)]; simp
    rw [quoN_eq (by omega), h2, h1]
    simp
  | c :: r, x, pre, b, h => by
    simp only [escN] at h
    cases hc : esc1 c with
    | none => rw [hc] at h; cases h
    | some y =>
      cases hr : escN r with
      | none => rw [hc, hr] at h; cases h
      | some z =>
        rw [hc, hr] at h
        injection h with h
        subst h
        have ih := quo_esc i r z (pre ++ y) (b ++ [c]) hr
        have e1 : pre ++ (y ++ z ++ [39]) = pre ++ y ++ (z ++ [39]) := by simp
        have e2 : b ++ [c] ++ r = b ++ c :: r := by simp
        have e3 : pre.length + (y ++ z).length + 1 = (pre ++ y).length + z.length + 1 := by simp; omega
        rw [e3, e1, ← e2, ← ih]
        have hsz : (ByteArray.mk (pre ++ y ++ (z ++ [39])).toArray).size = pre.length + y.length + z.length + 1 := by show (pre ++ y ++ (z ++ [39])).length = _; simp; omega
        have hb : ∀ j, j < y.length → bu ⟨(pre ++ y ++ (z ++ [39])).toArray⟩ (pre.length + j) = y.getD j 0 := fun j hj => by
          rw [← e1, bu_list]
          simp only [List.getD_eq_getElem?_getD, List.append_assoc]
          rw [List.getElem?_append_left hj]
        obtain ⟨u, hu⟩ : ∃ u, u = ByteArray.mk (pre ++ y ++ (z ++ [39])).toArray := ⟨_, rfl⟩
        rw [← hu] at hsz hb ⊢
        rw [List.length_append]
        have two0 : ∀ d : UInt8, d ≠ 39 → bu u pre.length = d → twoB u pre.length 39 39 = false := fun d hd he => by
          unfold twoB
          have : ((bn u pre.length : Int) == 39) = false := by rw [bn_bu, he]; exact (byte_eq d 39).trans (decide_eq_false hd)
          rw [this]; simp
        have pair : ∀ d : UInt8, y = [92, d] → (d = 110 ∧ c = 10 ∨ d = 116 ∧ c = 9 ∨ (d = 92 ∨ d = 39) ∧ c = d) → quoN u i pre.length b = quoN u i (pre.length + y.length) (b ++ [c]) := fun d hy hd => by
          have hl : y.length = 2 := by rw [hy]; rfl
          have h0 := hb 0 (by omega)
          have h1 := hb 1 (by omega)
          rw [hy] at h0 h1
          have h0 : bu u pre.length = 92 := h0
          have h1 : bu u (pre.length + 1) = d := h1
          rw [quoN_eq (by omega), two0 92 (by decide) h0, hl]
          have n0 : (bn u pre.length : Int) = 92 := by rw [bn_bu, h0]; rfl
          have n1 : (bn u (pre.length + 1) : Int) = (d.toNat : Int) := by rw [bn_bu, h1]
          rw [n0, n1, h1]
          simp only [Bool.false_eq_true, if_false]
          rw [if_neg (by decide), if_pos (by decide), if_neg (by omega)]
          rcases hd with ⟨rfl, rfl⟩ | ⟨rfl, rfl⟩ | ⟨rfl | rfl, rfl⟩
          · rw [if_pos (by decide)]
          · rw [if_neg (by decide), if_pos (by decide)]
          · rw [if_neg (by decide), if_neg (by decide), if_pos (by decide)]
          · rw [if_neg (by decide), if_neg (by decide), if_pos (by decide)]
        unfold esc1 at hc
        split at hc
        · rename_i h10
          injection hc with hc
          exact pair 110 hc.symm (.inl ⟨rfl, h10⟩)
        · split at hc
          · rename_i h9
            injection hc with hc
            exact pair 116 hc.symm (.inr (.inl ⟨rfl, h9⟩))
          · split at hc
            · rename_i h9
              injection hc with hc
              exact pair c hc.symm (.inr (.inr ⟨h9, rfl⟩))
            · rename_i h99
              split at hc
              · cases hc
              · rename_i hrange
                injection hc with hc
                have hl : y.length = 1 := by rw [← hc]; rfl
                have h0 := hb 0 (by omega)
                rw [← hc] at h0
                have h0 : bu u pre.length = c := h0
                have n0 : (bn u pre.length : Int) = (c.toNat : Int) := by rw [bn_bu, h0]
                rw [quoN_eq (by omega), two0 c (fun e => h99 (.inr e)) h0, hl, n0, h0]
                have m1 : (((c.toNat : Nat) : Int) == 39) = false := (byte_eq c 39).trans (decide_eq_false fun e => h99 (.inr e))
                have m2 : (((c.toNat : Nat) : Int) == 92) = false := (byte_eq c 92).trans (decide_eq_false fun e => h99 (.inl e))
                rw [m1, m2, decide_eq_false (by omega : ¬ ((c.toNat : Nat) : Int) < 32), decide_eq_false (by omega : ¬ (126 : Int) < ((c.toNat : Nat) : Int))]
                simp
theorem quo_len : ∀ (f : Nat) (s : ByteArray) (i k : Nat) (b t : List UInt8) (p : Nat), quoF f s i k b = .ok t p → t.length + k + 1 ≤ p + b.length
  | 0, _, _, _, _, _, _, h => by unfold quoF at h; cases h
  | f + 1, s, i, k, b, t, p, h => by
    unfold quoF at h
    split at h
    · split at h
      · have := quo_len f s i _ _ t p h; simp at this; omega
      · split at h
        · injection h with h1 h2; subst h1; subst h2; omega
        · split at h
          · split at h
            · cases h
            · split at h
              · have := quo_len f s i _ _ t p h; simp at this; omega
              · split at h
                · have := quo_len f s i _ _ t p h; simp at this; omega
                · split at h
                  · have := quo_len f s i _ _ t p h; simp at this; omega
                  · cases h
          · split at h
            · cases h
            · have := quo_len f s i _ _ t p h; simp at this; omega
    · cases h
theorem headN_quote {s : ByteArray} {f : Nat} {o : Option Tk} (h : (bn s f : Int) = 39) : headN s f o = some (1, 0) := by
  unfold headN
  rw [h]
  have e1 : smallB 39 = false := by decide
  have e2 : greatB 39 = false := by decide
  have e3 : digitB 39 = false := by decide
  have e4 : signB 39 = false := by decide
  rw [e1, e2, e3, e4]
  simp
/-- One token that is the whole text. -/
theorem lex_one {s : ByteArray} {x : Tk} (hb : betN s 0 = (0, true)) (hs : 0 < s.size) (hs2 : s.size ≤ 4096) (ho : oneN s 0 [] = .ok x) (hx : x.b = s.size) : lexN s = .ok [x] := by
  refine toks_lex ?_ hs2
  rw [toksN_one hs, hb]
  dsimp only
  rw [if_neg (by omega), ho]
  dsimp only
  rw [hx, toksN_end (Nat.le_refl _)]
  rfl
theorem bet_none {s : ByteArray} {j : Nat} (h : j < s.size) (h1 : blankB (bn s j) = false) (h2 : ((bn s j : Int) == 37) = false) (h3 : twoB s j 47 42 = false) : betN s j = (j, true) := by
  rw [betN_eq h, h1, h2, h3]
  simp
theorem two_no' {x : List UInt8} (h0 : (bn (quotedN x) 0 : Int) = 39) : twoB (quotedN x) 0 47 42 = false := by
  unfold twoB
  rw [h0]
  simp
theorem lex_quoted {name x : List UInt8} (h : escN name = some x) (hn : x.length ≤ 4000) : lexN (quotedN x) = .ok [⟨1, ⟨name.toArray⟩, 0, (quotedN x).size⟩] := by
  have hs : (quotedN x).size = x.length + 2 := by show (39 :: (x ++ [39])).length = _; simp
  have h0 : (bn (quotedN x) 0 : Int) = 39 := rfl
  have hq := quo_esc 0 name x [39] [] h
  have hq' : quoN (quotedN x) 0 1 [] = .ok name (x.length + 2) := by
    have e : (quotedN x) = ⟨([39] ++ (x ++ [39])).toArray⟩ := rfl
    rw [e]
    have e2 : 1 + x.length + 1 = x.length + 2 := by omega
    rw [← e2]
    exact hq
  refine lex_one (bet_none (by omega) (by rw [h0]; rfl) (by rw [h0]; rfl) (two_no' h0)) (by omega) (by omega) ?_ rfl
  unfold oneN
  rw [headN_quote h0]
  dsimp only
  rw [if_neg (by simp), h0, if_pos (by decide), hq', hs]
theorem bytes_same {a b : ByteArray} (h : a.data.toList = b.data.toList) : a = b := by
  apply ByteArray.ext
  exact Array.toList_inj.1 h
theorem extract_all (s : ByteArray) : s.extract 0 s.size = s := by
  apply bytes_same
  rw [list_rest]
  rfl
theorem sign_facts {c : Int} (h : signB c = true) : smallB c = false ∧ greatB c = false ∧ digitB c = false ∧ blankB c = false ∧ (c == 37) = false ∧ (c == 39) = false := by
  have := signB_iff.1 h
  simp only [List.mem_cons, List.not_mem_nil, or_false] at this
  rcases this with rfl | rfl | rfl | rfl | rfl | rfl | rfl | rfl | rfl | rfl | rfl | rfl | rfl | rfl | rfl | rfl | rfl <;> exact ⟨by decide, by decide, by decide, by decide, by decide, by decide⟩
theorem small_facts {c : Int} (h : smallB c = true) : blankB c = false ∧ (c == 37) = false ∧ (c == 39) = false ∧ (c == 46) = false ∧ (c == 47) = false := by
  simp only [smallB, Bool.and_eq_true, decide_eq_true_eq] at h
  refine ⟨?_, ?_, ?_, ?_, ?_⟩
  · simp only [blankB, Bool.or_eq_false_iff, beq_eq_false_iff_ne]; omega
  all_goals rw [beq_eq_false_iff_ne]; omega
theorem run_all {k : Int} {s : ByteArray} (h : runN k s 0 = s.size) {i : Nat} (hi : i < s.size) : kindB k (bn s i) = true := by
  have key : ∀ (n j : Nat), s.size - j ≤ n → runN k s j = s.size → ∀ i, j ≤ i → i < s.size → kindB k (bn s i) = true := by
    intro n
    induction n with
    | zero => intro j hn _ i h1 h2; omega
    | succ n ih =>
      intro j hn hr i h1 h2
      cases hk : kindB k (bn s j) with
      | false => rw [runN_stop hk] at hr; omega
      | true =>
        rw [runN_step (by omega) hk] at hr
        rcases Nat.eq_or_lt_of_le h1 with rfl | h3
        · exact hk
        · exact ih (j + 1) (by omega) hr i (by omega) h2
  exact key s.size 0 (by omega) h i (Nat.zero_le _) hi
theorem one_plain {s : ByteArray} (h39 : ((bn s 0 : Int) == 39) = false) (hh : headN s 0 none = some (1, s.size)) : oneN s 0 [] = .ok ⟨1, s, 0, s.size⟩ := by
  unfold oneN
  rw [show ([] : List Tk).getLast? = none from rfl, hh]
  dsimp only
  rw [if_neg (by simp), h39, extract_all]
  rfl
theorem lex_plain {s : ByteArray} (h : plainN s = true) (hs2 : s.size ≤ 4096) : lexN s = .ok [⟨1, s, 0, s.size⟩] ∧ ((bn s 0 : Int) == 39) = false := by
  unfold plainN at h
  rw [Bool.and_eq_true, decide_eq_true_eq] at h
  obtain ⟨hs, h⟩ := h
  cases hsm : smallB (bn s 0) with
  | true =>
    rw [hsm, if_pos rfl, decide_eq_true_eq] at h
    obtain ⟨f1, f2, f3, f4, f5⟩ := small_facts hsm
    refine ⟨lex_one (bet_none hs f1 f2 (by unfold twoB; rw [f5]; simp)) hs hs2 (one_plain f3 ?_) rfl, f3⟩
    unfold headN
    rw [f4, hsm, h]
    simp
  | false =>
    rw [hsm] at h
    simp only [Bool.false_eq_true, if_false] at h
    cases hsi : signB (bn s 0) with
    | true =>
      rw [hsi, if_pos rfl, Bool.and_eq_true, Bool.and_eq_true, decide_eq_true_eq] at h
      obtain ⟨⟨hdot, htwo⟩, hrun⟩ := h
      obtain ⟨f1, f2, f3, f4, f5, f6⟩ := sign_facts hsi
      have htwo' : twoB s 0 47 42 = false := by simpa using htwo
      refine ⟨lex_one (bet_none hs f4 f5 htwo') hs hs2 (one_plain f6 ?_) rfl, f6⟩
      have hd : ((bn s 0 : Int) == 46 && (decide (0 + 1 = s.size) || blankB (bn s (0 + 1)) || (bn s (0 + 1) : Int) == 37)) = false := by
        cases h46 : ((bn s 0 : Int) == 46) with
        | false => rfl
        | true =>
          rw [h46] at hdot
          have h1 : s.size ≠ 1 := by simpa using hdot
          have hk := run_all hrun (i := 0 + 1) (by omega)
          have hsg : signB (bn s (0 + 1)) = true := by simpa [kindB] using hk
          obtain ⟨_, _, _, g4, g5, _⟩ := sign_facts hsg
          rw [g4, g5, decide_eq_false (by omega)]
          rfl
      unfold headN
      rw [hd, f1, f2, f3, hsi, hrun]
      simp
    | false =>
      rw [hsi] at h
      simp only [Bool.false_eq_true, if_false, Bool.and_eq_true, decide_eq_true_eq, Bool.or_eq_true, beq_iff_eq] at h
      obtain ⟨hc, h1⟩ := h
      have f : ∀ c : Int, (c = 33 ∨ c = 59) → blankB c = false ∧ (c == 37) = false ∧ (c == 39) = false ∧ (c == 46) = false ∧ (c == 47) = false ∧ greatB c = false ∧ digitB c = false ∧ (c == 33 || c == 59) = true := by
        rintro c (rfl | rfl) <;> exact ⟨by decide, by decide, by decide, by decide, by decide, by decide, by decide, by decide⟩
      obtain ⟨f1, f2, f3, f4, f5, f6, f7, f8⟩ := f _ hc
      refine ⟨lex_one (bet_none hs f1 f2 (by unfold twoB; rw [f5]; simp)) hs hs2 (one_plain f3 ?_) rfl, f3⟩
      unfold headN
      rw [f4, hsm, f6, f7, hsi, f8, h1]
      simp
/-- What the reference asks of a name that stands without quotes. -/
theorem plain_of_lex {s : ByteArray} {x : Tk} (h : lexN s = .ok [x]) (hk : x.k = 1) (ht : x.t = s) (hb : x.b = s.size) : plainN s = true := by
  obtain ⟨ht0, hs2⟩ := lex_toks h
  by_cases hs : 0 < s.size
  · rw [toksN_one hs] at ht0
    have hge := betN_ge (s := s) (j := 0) (by omega)
    cases hbe : betN s 0 with
    | mk f b =>
      rw [hbe] at ht0 hge
      dsimp only at hge
      cases b with
      | false => cases ht0
      | true =>
        dsimp only at ht0
        by_cases hf : f = s.size
        · rw [if_pos hf] at ht0; injection ht0 with ht0; cases ht0
        · rw [if_neg hf] at ht0
          cases ho : oneN s f [] with
          | bad p e => rw [ho] at ht0; cases ht0
          | ok y =>
            rw [ho] at ht0
            dsimp only at ht0
            have hyx : y = x := by
              obtain ⟨_, hp, _⟩ := toks_ind (s := s) (fun _ l => ∃ r, l = y :: r) (fun k l f x _ hp _ _ _ => by obtain ⟨r, rfl⟩ := hp; exact ⟨r ++ [x], rfl⟩) _ _ _ _ (Nat.le_refl _) ⟨[], rfl⟩ ht0
              obtain ⟨r, hr⟩ := hp
              injection hr with h1 _
              exact h1.symm
            subst hyx
            clear ht0
            unfold oneN at ho
            rw [show ([] : List Tk).getLast? = none from rfl] at ho
            cases hh : headN s f none with
            | none => rw [hh] at ho; cases ho
            | some q =>
              obtain ⟨K, j⟩ := q
              rw [hh] at ho
              dsimp only at ho
              rw [if_neg (by simp)] at ho
              split at ho
              · cases hq : quoN s f (f + 1) [] with
                | bad p e => rw [hq] at ho; cases ho
                | ok t p =>
                  rw [hq] at ho
                  injection ho with ho
                  have h1 := quo_len _ _ _ _ _ _ _ hq
                  have h2 : t.length = s.size := by rw [← ht, ← ho]; rfl
                  have h3 : p = s.size := by rw [← hb, ← ho]
                  simp at h1
                  omega
              · rename_i hf39
                injection ho with ho
                have h3 : j = s.size := by rw [← hb, ← ho]
                have hK : K = 1 := by rw [← hk, ← ho]
                have h2 : (s.extract f j).size = s.size := by
                  have : (y.t).size = s.size := by rw [ht]
                  rw [← ho] at this
                  exact this
                rw [ByteArray.size_extract] at h2
                have hf0 : f = 0 := by omega
                subst hf0; subst h3; subst hK
                rw [betN_eq hs] at hbe
                have g1 : blankB (bn s 0) = false := by
                  cases hbl : blankB (bn s 0) with
                  | false => rfl
                  | true =>
                    rw [if_pos hbl] at hbe
                    have := betN_ge (s := s) (j := 0 + 1) (by omega)
                    rw [hbe] at this
                    dsimp only at this
                    omega
                have g3 : twoB s 0 47 42 = false := by
                  cases hbl : twoB s 0 47 42 with
                  | false => rfl
                  | true =>
                    have h47 : (bn s 0 : Int) = 47 := by
                      unfold twoB at hbl
                      simp only [Bool.and_eq_true, beq_iff_eq] at hbl
                      exact hbl.1.2
                    rw [g1, hbl, h47] at hbe
                    rw [if_neg (by decide), if_neg (by decide), if_pos rfl] at hbe
                    have h8 := endN_ge s (0 + 2)
                    split at hbe
                    · rename_i h9
                      have h10 := twoB_lt (endN_two h9)
                      have := betN_ge (s := s) (j := endN s (0 + 2) + 2) (by omega)
                      rw [hbe] at this
                      dsimp only at this
                      omega
                    · injection hbe with _ hbe; cases hbe
                unfold plainN
                rw [decide_eq_true hs, Bool.true_and]
                unfold headN at hh
                split at hh
                · injection hh with hh; injection hh with hh _; omega
                · rename_i hnd
                  split at hh
                  · rename_i hsm
                    injection hh with hh; injection hh with _ hh
                    rw [if_pos hsm, hh]
                    simp
                  · rename_i hsm
                    rw [if_neg hsm]
                    split at hh
                    · injection hh with hh; injection hh with hh _; omega
                    · split at hh
                      · injection hh with hh; injection hh with hh _; omega
                      · split at hh
                        · rename_i hsi
                          injection hh with hh; injection hh with _ hh
                          rw [if_pos hsi, hh, g3]
                          have hdd : (decide (s.size = 1) && (bn s 0 : Int) == 46) = false := by
                            cases h1 : decide (s.size = 1) with
                            | false => rfl
                            | true =>
                              have h1' : 0 + 1 = s.size := by have := of_decide_eq_true h1; omega
                              rw [decide_eq_true h1'] at hnd
                              cases h46 : ((bn s 0 : Int) == 46) with
                              | false => rfl
                              | true => rw [h46] at hnd; simp at hnd
                          rw [hdd]
                          simp
                        · rename_i hsi
                          rw [if_neg hsi]
                          split at hh
                          · rename_i hso
                            injection hh with hh; injection hh with _ hh
                            rw [Bool.and_eq_true, decide_eq_true_eq]
                            exact ⟨hso, by omega⟩
                          · split at hh
                            · injection hh with hh; injection hh with _ hh; omega
                            · cases hh
  · rw [toksN_end (by omega)] at ht0
    injection ht0 with ht0
    cases ht0
/-- What a name that can be quoted is read as. -/
theorem lex_quote {s : ByteArray} (hs : s.size ≤ 2000) (hq : (quoteN s).size ≠ 0) : lexN (quoteN s) = .ok [⟨1, s, 0, (quoteN s).size⟩] ∧ 0 < (quoteN s).size ∧ (quoteN s).size ≤ 2 * s.size + 2 := by
  unfold quoteN at hq ⊢
  cases hp : plainN s with
  | true =>
    rw [hp, if_pos rfl] at hq
    rw [if_pos rfl]
    exact ⟨(lex_plain hp (by omega)).1, by omega, by omega⟩
  | false =>
    rw [hp] at hq
    simp only [Bool.false_eq_true, if_false] at hq ⊢
    cases he : escN s.data.toList with
    | none => rw [he] at hq; exact absurd rfl hq
    | some x =>
      dsimp only
      have h1 := escN_len _ _ he
      rw [list_len] at h1
      have hz : (quotedN x).size = x.length + 2 := by show (39 :: (x ++ [39])).length = _; simp
      refine ⟨?_, by omega, by omega⟩
      have := lex_quoted he (by omega)
      simpa using this
end Go.Proofs.Ytgaganmcfoeejaa
