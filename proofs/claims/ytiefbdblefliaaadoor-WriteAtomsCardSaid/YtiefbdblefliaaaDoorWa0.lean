/- What WriteAtoms asks, plain: a compound term of a name, an integer and an atom; its text has few tokens and is read back as a term that is alike. -/
import Derived.Test.YtiefbdblefliaaaDoorWt5
namespace Go.Proofs.YtiefbdblefliaaaDoor
open Go.RowKit

/-- From one place on the lexer comes to some such tokens, no more than so many. -/
def LexS (u : ByteArray) (p : Nat) (l : List Tk) (p' : Nat) (P : List Tk → Prop) (n : Nat) : Prop := ∃ tks, P tks ∧ toksN u p l = toksN u p' (l ++ tks) ∧ tks.length ≤ n
theorem LexTo.sure {u : ByteArray} {p p' : Nat} {l l' : List Tk} (h : LexTo u p l p' l') (hl : l.length < 1000) : toksN u p l = toksN u p' l' := by
  rcases h with ⟨h, _⟩ | ⟨h, _⟩
  · exact h
  · omega
theorem LexS.one {u : ByteArray} {p p' : Nat} {l : List Tk} {x : Tk} {P : List Tk → Prop} (h : LexTo u p l p' (l ++ [x])) (hl : l.length < 1000) (hP : P [x]) : LexS u p l p' P 1 := ⟨[x], hP, h.sure hl, Nat.le_refl _⟩
theorem LexS.bind {u : ByteArray} {p p1 p2 : Nat} {l : List Tk} {P Q : List Tk → Prop} {n m : Nat} (h : LexS u p l p1 P n) (h2 : ∀ a, P a → a.length ≤ n → LexS u p1 (l ++ a) p2 (fun b => Q (a ++ b)) m) : LexS u p l p2 Q (n + m) := by
  obtain ⟨a, ha, h, hl⟩ := h
  obtain ⟨b, hb, h3, hl3⟩ := h2 a ha hl
  exact ⟨a ++ b, hb, by rw [h, h3, List.append_assoc], by rw [List.length_append]; omega⟩
theorem LexS.mono {u : ByteArray} {p p1 : Nat} {l : List Tk} {P Q : List Tk → Prop} {n m : Nat} (h : LexS u p l p1 P n) (hq : ∀ a, P a → Q a) (hn : n ≤ m) : LexS u p l p1 Q m := by
  obtain ⟨a, ha, h, hl⟩ := h
  exact ⟨a, hq a ha, h, by omega⟩
theorem LexS.at {u : ByteArray} {p p1 p2 : Nat} {l : List Tk} {P : List Tk → Prop} {n : Nat} (h : LexS u p l p1 P n) (e : p1 = p2) : LexS u p l p2 P n := e ▸ h
theorem LexS.mark {u : ByteArray} {p : Nat} {c : UInt8} {R : List UInt8} {l : List Tk} (h : u.data.toList.drop p = c :: R) (hm : markB c.toNat = true) (h40 : c ≠ 40) (hl : l.length < 1000) : LexS u p l (p + 1) (fun tks => ∃ x, tks = [x] ∧ Mk x c) 1 := by
  obtain ⟨x, hx, _, _, hL⟩ := tok_mark h hm h40 (Nat.le_of_lt hl)
  exact .one hL hl ⟨x, rfl, hx⟩
section
variable {V : Int → List UInt8} {u : ByteArray}
theorem lexs_int {n : Int} {p : Nat} {R : List UInt8} {l : List Tk} (h : u.data.toList.drop p = (txB V (inT n)).1 ++ R) (hR : stopR R) (hl : l.length < 900) : LexS u p l (p + (txB V (inT n)).1.length) (tkB V (inT n)).1 2 := by
  unfold inT at h ⊢
  rw [tx_int] at h ⊢
  by_cases h0 : n < 0
  · have e : Lib.itoa n = 45 :: Lib.decDigits n.natAbs := by rw [Lib.itoa, if_pos h0]
    rw [e] at h ⊢
    have hd1 := drop_more (A := [45]) (B := Lib.decDigits n.natAbs ++ R) h
    obtain ⟨x, h1, h2, _, hb, hL⟩ := tok_minus h (digits_stop3 _ R) (l := l) (by omega)
    refine (LexS.bind (P := fun tks => tks = [x]) (n := 1) (m := 1) (.one hL (by omega) rfl) fun a' ha hla => ?_).at (p1 := p + 1 + (Lib.decDigits n.natAbs).length) (by simp only [List.length_cons]; omega)
    subst ha
    obtain ⟨y, h3, h4, h5, _, hL2⟩ := tok_int hd1 (dec_ne _) (dec_digits _) hR (l := l ++ [x]) (by simp; omega)
    exact .one hL2 (by simp; omega) ((tk_neg V h0 _ _ _ _).mpr ⟨x, y, rfl, h1, h2, h3, h4, by rw [h5, hb]; rfl⟩)
  · have e : Lib.itoa n = Lib.decDigits n.toNat := by rw [Lib.itoa, if_neg h0]
    rw [e] at h ⊢
    obtain ⟨x, h1, h2, _, _, hL⟩ := tok_int h (dec_ne _) (dec_digits _) hR (l := l) (by omega)
    exact (LexS.one (P := (tkB V (.mk 2 n ⟨#[]⟩ 0 fun _ => .nil)).1) hL (by omega) ((tk_pos V h0 _ _ _ _).mpr ⟨x, rfl, h1, by rw [h2, e]⟩)).mono (fun _ h => h) (by omega)
theorem lexs_atom {s : ByteArray} {p : Nat} {R : List UInt8} {l : List Tk} (hq : (quoteN s).size ≠ 0) (h : u.data.toList.drop p = (txB V (atT s)).1 ++ R) (hR : stopR R) (hl : l.length < 900) : LexS u p l (p + (txB V (atT s)).1.length) (tkB V (atT s)).1 2 := by
  unfold atT at h ⊢
  by_cases h1 : s = nilS
  · subst h1
    rw [tx_nil] at h ⊢
    have hd1 := drop_more (A := [91]) (B := 93 :: R) h
    refine LexS.bind (p1 := p + 1) (n := 1) (m := 1) (LexS.mark (R := 93 :: R) h (by decide) (by decide) (by omega)) fun a' ha hla => ?_
    obtain ⟨x, rfl, hx⟩ := ha
    refine (LexS.mark (R := R) (l := l ++ [x]) hd1 (by decide) (by decide) (by simp; omega)).mono (fun b hb => ?_) (Nat.le_refl _)
    obtain ⟨y, rfl, hy⟩ := hb
    exact (tk_nil V _ _ _ _).mpr ⟨x, y, rfl, hx, hy⟩
  · by_cases h2 : s = curS
    · subst h2
      rw [tx_cur] at h ⊢
      have hd1 := drop_more (A := [123]) (B := 125 :: R) h
      refine LexS.bind (p1 := p + 1) (n := 1) (m := 1) (LexS.mark (R := 125 :: R) h (by decide) (by decide) (by omega)) fun a' ha hla => ?_
      obtain ⟨x, rfl, hx⟩ := ha
      refine (LexS.mark (R := R) (l := l ++ [x]) hd1 (by decide) (by decide) (by simp; omega)).mono (fun b hb => ?_) (Nat.le_refl _)
      obtain ⟨y, rfl, hy⟩ := hb
      exact (tk_cur V _ _ _ _).mpr ⟨x, y, rfl, hx, hy⟩
    · rw [tx_atom V h1 h2] at h ⊢
      obtain ⟨x, h3, h4, _, _, hL⟩ := tok_atom h hq hR (l := l) (by omega)
      exact (LexS.one (P := (tkB V (.mk 3 0 s 0 fun _ => .nil)).1) hL (by omega) ((tk_atom V h1 h2 _ _ _ _).mpr ⟨x, rfl, h3, h4⟩)).mono (fun _ h => h) (by omega)
end
/-- The term of WriteAtoms. -/
def atmT (n : Int) (s : ByteArray) : T := .mk 4 0 s 2 fun i => if i = 0 then inT n else atT s
theorem quote_len2 {s : ByteArray} (hs : s.size ≤ 512) : (quoteN s).data.toList.length ≤ 1026 := by
  have e : (quoteN s).data.toList.length = (quoteN s).size := Array.length_toList
  rw [e]
  unfold quoteN
  cases plainN s with
  | true => rw [if_pos rfl]; omega
  | false =>
    rw [if_neg (by decide)]
    cases he : escN s.data.toList with
    | none => exact Nat.zero_le _
    | some x =>
      have := escN_len _ _ he
      have h9 : s.data.toList.length = s.size := by rw [Array.length_toList]; rfl
      show (39 :: (x ++ [39])).toArray.size ≤ _
      simp
      omega
theorem atm_fit {n : Int} {s : ByteArray} (hn : I64 n) (hs : s.size ≤ 512) : (atmT n s).fit := by
  refine ⟨⟨by decide, by decide⟩, by omega, fun i _ => ?_⟩
  by_cases h : i = 0
  · show (if i = 0 then inT n else atT s).fit
    rw [if_pos h]; exact ⟨hn, by show (⟨#[]⟩ : ByteArray).size ≤ 4096; decide, fun j hj => absurd hj (by omega)⟩
  · show (if i = 0 then inT n else atT s).fit
    rw [if_neg h]; exact ⟨⟨by decide, by decide⟩, by omega, fun j hj => absurd hj (by omega)⟩
theorem atm_nodes (n : Int) (s : ByteArray) : (atmT n s).nodes = 3 := by
  simp [atmT, T.nodes, sumTo, inT, atT]
theorem quote_dot : (quoteN dotS).size ≠ 0 := by decide +kernel
theorem atm_len {V : Int → List UInt8} {n : Int} {s : ByteArray} (hn : I64 n) (hs : s.size ≤ 512) : (txB V (atmT n s)).1.length ≤ 3000 := by
  have h0 : (txB V (inT n)).1.length ≤ 25 := by
    unfold inT
    rw [tx_int]
    have := Lib.itoa_length_le n hn.1 hn.2
    show (Lib.itoa n).length ≤ _
    omega
  have hq := quote_len2 hs
  have h3 : (txB V (atT s)).1.length ≤ 1026 := by
    unfold atT
    by_cases h1 : s = nilS
    · subst h1; rw [tx_nil]; show 2 ≤ _; omega
    · by_cases h2 : s = curS
      · subst h2; rw [tx_cur]; show 2 ≤ _; omega
      · rw [tx_atom _ h1 h2]; exact hq
  have h2 : (txB V (atT s)).2.length ≤ 1027 := by
    by_cases h1 : s = nilS
    · subst h1; unfold atT; rw [tx_nil]; show 0 ≤ _; omega
    · have e := txt_else V (k := 3) (s := s) (m := 0) (fun h => absurd h.1 (by decide)) (fun h => h1 h.2) 0 (fun _ => .nil)
      show (txB V (.mk 3 0 s 0 fun _ => .nil)).2.length ≤ _
      rw [e]
      simp only [List.length_cons]
      have : (txB V (.mk 3 0 s 0 fun _ => .nil)).1.length ≤ 1026 := h3
      omega
  by_cases hp : s = dotS
  · subst hp
    unfold atmT
    rw [tx_pair]
    simp only [List.length_cons, List.length_append, List.length_nil, if_pos, show ¬ ((1 : Nat) = 0) by decide, if_false]
    omega
  · unfold atmT
    rw [tx_cmp V (fun h => hp h.1)]
    simp only [restB, List.length_cons, List.length_append, List.length_nil, if_pos, show ¬ ((1 : Nat) = 0) by decide, if_false]
    omega
theorem atm_lv (n : Int) (s : ByteArray) : (lvB (atmT n s)).1 ≤ 65 := by
  have h0 : (lvB (inT n)).1 = 1 := by unfold inT; rw [lvB]; simp
  have h1 : (lvB (atT s)).1 = 1 := by unfold atT; rw [lvB]; simp
  have h2 : (lvB (atT s)).2 ≤ 1 := by
    unfold atT; rw [lvB]
    dsimp only
    split
    · rename_i h; exact absurd h.1 (by decide)
    · split <;> simp
  by_cases hp : s = dotS
  · subst hp
    unfold atmT
    rw [lv_pair]
    simp only [if_pos, show ¬ ((1 : Nat) = 0) by decide, if_false]
    omega
  · unfold atmT
    rw [lv_cmp (fun h => hp h.1)]
    simp only [supTo, if_pos, show ¬ ((1 : Nat) = 0) by decide, if_false]
    omega
theorem atm_lex {V : Int → List UInt8} {n : Int} {s u : ByteArray} {R : List UInt8} (hq : (quoteN s).size ≠ 0) (hR : R = [] ∨ R = [32, 46]) (hu : u.data.toList = (txB V (atmT n s)).1 ++ R) : LexS u 0 [] (0 + (txB V (atmT n s)).1.length) (tkB V (atmT n s)).1 8 := by
  have hst : stopR R := by
    rcases hR with rfl | rfl
    · exact .inl rfl
    · exact .inr ⟨32, [46], rfl, by decide⟩
  have h : u.data.toList.drop 0 = (txB V (atmT n s)).1 ++ R := by simpa using hu
  clear hu
  unfold atmT at h ⊢
  by_cases hp : s = dotS
  · subst hp
    rw [tx_pair] at h ⊢
    simp only [if_pos, show ¬ ((1 : Nat) = 0) by decide, if_false] at h ⊢
    have e := txt_else V (k := 3) (s := dotS) (m := 0) (fun h => absurd h.1 (by decide)) (fun h => absurd h.2 (by decide)) 0 (fun _ => .nil)
    have e : (txB V (atT dotS)).2 = 124 :: (txB V (atT dotS)).1 := e
    rw [e] at h ⊢
    simp only [List.cons_append, List.append_assoc] at h
    have hd1 := drop_more (A := [91]) h
    refine (LexS.bind (n := 1) (m := 7) (LexS.mark h (by decide) (by decide) (by simp)) fun a' ha hla => ?_).at (p1 := 0 + 1 + (txB V (inT n)).1.length + 1 + (txB V (atT dotS)).1.length + 1) (by simp only [List.length_cons, List.length_append, List.length_nil]; omega)
    obtain ⟨x, rfl, hx⟩ := ha
    refine LexS.bind (n := 2) (m := 5) (lexs_int hd1 (stopR_of _ (by decide)) (by simp)) fun l0 h0 hl0 => ?_
    have hd2 := drop_more (B := 124 :: ((txB V (atT dotS)).1 ++ ([93] ++ R))) hd1
    refine LexS.bind (n := 1) (m := 4) (LexS.mark hd2 (by decide) (by decide) (by simp; omega)) fun b hb hlb => ?_
    obtain ⟨y, rfl, hy⟩ := hb
    have hd3 := drop_more (A := [124]) (B := (txB V (atT dotS)).1 ++ ([93] ++ R)) hd2
    refine LexS.bind (P := (tkB V (atT dotS)).1) (n := 2) (m := 2) (lexs_atom hq hd3 (stopR_of _ (by decide)) (by simp; omega)) fun l1 h1 hl1 => ?_
    have hd4 := drop_more (B := [93] ++ R) hd3
    refine (LexS.mark (R := R) hd4 (by decide) (by decide) (by simp; omega)).mono (fun c hc => ?_) (by omega)
    obtain ⟨z, rfl, hz⟩ := hc
    refine (tk_pair V 0 _ _).mpr ⟨x, z, l0, y :: l1, by simp, hx, hz, h0, ?_⟩
    exact (tl_else V (k := 3) (s := dotS) (m := 0) (fun h => absurd h.1 (by decide)) (fun h => absurd h.2 (by decide)) 0 (fun _ => .nil) _).mpr ⟨y, l1, rfl, hy, h1⟩
  · have hp' : ¬ (s = dotS ∧ 2 = 2) := fun h => hp h.1
    rw [tx_cmp V hp'] at h ⊢
    simp only [restB, if_pos, show ¬ ((1 : Nat) = 0) by decide, if_false, List.cons_append, List.append_assoc, List.nil_append, List.append_nil] at h ⊢
    obtain ⟨x, h1, h2, _, hxb, hL⟩ := tok_atom h hq (stopR_of _ (by decide)) (l := []) (by simp)
    refine (LexS.bind (P := fun tks => tks = [x]) (n := 1) (m := 7) (.one hL (by simp) rfl) fun a' ha hla => ?_).at (p1 := 0 + (quoteN s).data.toList.length + 1 + (txB V (inT n)).1.length + 1 + (txB V (atT s)).1.length + 1) (by simp only [List.length_cons, List.length_append, List.length_nil]; omega)
    subst ha
    have hd1 := drop_more h
    obtain ⟨y, hy, _, _, hL2⟩ := tok_open (l := []) hd1 h1 hxb (by simp)
    refine LexS.bind (P := fun tks => tks = [y]) (n := 1) (m := 6) (.one hL2 (by simp) rfl) fun b hb hlb => ?_
    subst hb
    have hd2 := drop_more (A := [40]) hd1
    refine LexS.bind (n := 2) (m := 4) (lexs_int hd2 (stopR_of _ (by decide)) (by simp)) fun l0 h0 hl0 => ?_
    have hd3 := drop_more hd2
    refine LexS.bind (n := 1) (m := 3) (LexS.mark hd3 (by decide) (by decide) (by simp; omega)) fun c hc hlc => ?_
    obtain ⟨v, rfl, hv⟩ := hc
    have hd4 := drop_more (A := [44]) hd3
    refine LexS.bind (n := 2) (m := 1) (lexs_atom hq hd4 (stopR_of _ (by decide)) (by simp; omega)) fun l1 h1' hl1 => ?_
    have hd5 := drop_more hd4
    refine (LexS.mark (R := R) hd5 (by decide) (by decide) (by simp; omega)).mono (fun d hd => ?_) (by omega)
    obtain ⟨z, rfl, hz⟩ := hd
    refine (tk_cmp V hp' 0 _ _).mpr ⟨x, y, z, l0, v :: l1, by simp, h1, h2, hy, hz, by simpa using h0, ?_⟩
    exact ⟨v, l1, [], by simp, hv, by simpa using h1', rfl⟩
/-- What WriteAtoms asks. -/
theorem atm_back {n : Int} {s s0 : ByteArray} (hn : I64 n) (hs : s.size ≤ 512) (hw : (atmT n s).wr) (h0 : s0 = ba (txB (nmV []) (atmT n s)).1) : ∃ u ns qs, sentN s0 = .ok (u, ns) ∧ Alk (atmT n s) u [] qs := by
  have hq := (wr_cmp hw).1
  rcases back_alikeX (X := True) hw (atm_fit hn hs) h0 (fun _ u R hR hu => by
    obtain ⟨tks, h1, h2, h3⟩ := atm_lex hq hR hu
    exact ⟨tks, h1, by simpa using h2, by omega⟩) with ⟨p, e, _, h | h | h⟩ | h
  · have h1 := atm_len (V := nmV []) hn hs
    have h2 : s0.size = (txB (nmV []) (atmT n s)).1.length := by rw [← len_u, h0, ba_list]
    omega
  · exact absurd trivial h.2
  · have := atm_lv n s
    omega
  · exact h
end Go.Proofs.YtiefbdblefliaaaDoor
