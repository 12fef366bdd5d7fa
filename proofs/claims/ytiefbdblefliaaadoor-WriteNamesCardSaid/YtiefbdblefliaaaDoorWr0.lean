/- What walks of writing a term want: names in memory; terms whose parts fit; how long a text may be. -/
import Derived.Test.YtiefbdblefliaaaDoorGd
import Derived.Test.YtiefbdblefliaaaDoorGw
import Derived.Test.YtiefbdblefliaaaDoorRd4
namespace Go.Proofs.YtiefbdblefliaaaDoor
open Go.RowKit

/-- A row of names, anywhere below a bound. -/
def NmIn (w : World) (S : Nat) (nm : List ByteArray) (v : Value) : Prop :=
  ∃ A c, v = .slice A nm.length c ∧ (0 < nm.length → ∃ g o, A = some ⟨g, o, none⟩ ∧ g < S ∧ ∀ (i : Nat) (h : i < nm.length), w.cell? ⟨g, o + i, none⟩ = some (.string (nm[i]'h)))
theorem NmIn.low {w w' : World} {S B : Nat} {nm : List ByteArray} {v : Value} (h : NmIn w S nm v) (hS : S ≤ B) (hb : Below B w w') : NmIn w' S nm v := by
  obtain ⟨A, c, e, hx⟩ := h
  refine ⟨A, c, e, fun h0 => ?_⟩
  obtain ⟨g, o, e1, h1, h2⟩ := hx h0
  exact ⟨g, o, e1, h1, fun i hi => (hb.cell (p := ⟨g, o + i, none⟩) (by show g < B; omega)).trans (h2 i hi)⟩
theorem NmIn.none (w : World) (S : Nat) : NmIn w S [] (.slice none 0 0) := ⟨_, _, rfl, fun h => absurd h (by simp)⟩
/-- Numbers and names of a term fit. -/
def T.fit : T → Prop
  | .nil => True
  | .mk _ n s m a => I64 n ∧ s.size ≤ 4096 ∧ ∀ i, i < m → (a i).fit
theorem T.fit.short : ∀ {t : T}, t.fit → t.short
  | .nil, _ => trivial
  | .mk _ _ _ _ _, h => ⟨h.2.1, fun i hi => (h.2.2 i hi).short⟩
theorem legal_wr : ∀ {t : T}, t.legal → t.fit → t.wr
  | .nil, h, _ => h.elim
  | .mk k n s m a, h, hf => by
    rcases h with h | h | h | h
    · exact .inl h
    · exact .inr (.inl ⟨h, hf.1.1, hf.1.2⟩)
    · exact .inr (.inr (.inl h))
    · exact .inr (.inr (.inr ⟨h.1, h.2.1, h.2.2.1, fun i hi => legal_wr (h.2.2.2 i hi) (hf.2.2 i hi)⟩))
theorem wr_legal : ∀ {t : T}, t.wr → t.legal
  | .nil, h => h.elim
  | .mk k n s m a, h => by
    rcases h with h | h | h | h
    · exact .inl h
    · exact .inr (.inl h.1)
    · exact .inr (.inr (.inl h))
    · exact .inr (.inr (.inr ⟨h.1, h.2.1, h.2.2.1, fun i hi => wr_legal (h.2.2.2 i hi)⟩))
theorem quote_len {s : ByteArray} (hs : s.size ≤ 4096) : (quoteN s).data.toList.length ≤ 8194 := by
  have e : (quoteN s).data.toList.length = (quoteN s).size := Array.length_toList
  rw [e]
  unfold quoteN
  cases plainN s with
  | true => rw [if_pos rfl]; omega
  | false =>
    rw [if_neg (by decide)]
    cases he : escN s.data.toList with
    | none => exact Nat.zero_le _
    | some x =>
      have := escN_len _ _ he
      have h9 : s.data.toList.length = s.size := by rw [Array.length_toList]; rfl
      show (39 :: (x ++ [39])).toArray.size ≤ _
      simp
      omega
def NamesFit (nm : List ByteArray) : Prop := nm.length ≤ 100000 ∧ ∀ x ∈ nm, x.size ≤ 100000
theorem nmV_len {nm : List ByteArray} (h : NamesFit nm) {n : Int} (hn : I64 n) : (nmV nm n).length ≤ 100000 := by
  have hi : (95 :: Lib.itoa n).length ≤ 100000 := by
    have := Lib.itoa_length_le n hn.1 hn.2
    simp only [List.length_cons]
    omega
  unfold nmV
  cases hx : nm[n.toNat]? with
  | none => exact hi
  | some s =>
    dsimp only
    split
    · exact hi
    · have := h.2 s (List.mem_of_getElem? hx)
      have e : s.data.toList.length = s.size := Array.length_toList
      omega
theorem rest_len {V : Int → List UInt8} {f : Nat → T} : ∀ (r j : Nat), (∀ i, i < j + r → ((txB V (f i)).1).length + 1 ≤ 200000 * (f i).nodes) → (restB (fun i => (txB V (f i)).1) j r).length + 200000 * sumTo j (fun i => (f i).nodes) ≤ 200000 * sumTo (j + r) (fun i => (f i).nodes)
  | 0, j, _ => by simp [restB]
  | r + 1, j, h => by
    have h1 := rest_len (V := V) r (j + 1) fun i hi => h i (by omega)
    have h2 := h j (by omega)
    rw [show j + (r + 1) = j + 1 + r by omega]
    simp only [restB, List.length_cons, List.length_append, sumTo] at h1 ⊢
    omega
theorem tx_len {nm : List ByteArray} (hnm : NamesFit nm) : ∀ (t : T), t.wr → t.fit → (txB (nmV nm) t).1.length + 2 ≤ 200000 * t.nodes ∧ (txB (nmV nm) t).2.length + 1 ≤ 200000 * t.nodes := by
  intro t
  induction t with
  | nil => exact fun h => h.elim
  | mk k n s m a ih =>
    intro hw hf
    have hn : 1 ≤ (T.mk k n s m a).nodes := by simp only [T.nodes]; omega
    have key : (txB (nmV nm) (.mk k n s m a)).1.length + 2 ≤ 200000 * (T.mk k n s m a).nodes := by
      rcases hw with ⟨rfl, _⟩ | ⟨rfl, _⟩ | ⟨rfl, _⟩ | ⟨rfl, _, hm, hwa⟩
      · rw [tx_var]
        have := nmV_len hnm hf.1
        show (nmV nm n).length + 2 ≤ _
        omega
      · rw [tx_int]
        have := Lib.itoa_length_le n hf.1.1 hf.1.2
        show (Lib.itoa n).length + 2 ≤ _
        omega
      · by_cases h1 : s = nilS
        · subst h1; rw [tx_nil]; show 2 + 2 ≤ _; omega
        · by_cases h2 : s = curS
          · subst h2; rw [tx_cur]; show 2 + 2 ≤ _; omega
          · rw [tx_atom _ h1 h2]
            have := quote_len hf.2.1
            show (quoteN s).data.toList.length + 2 ≤ _
            omega
      · by_cases hp : s = dotS ∧ m = 2
        · obtain ⟨rfl, rfl⟩ := hp
          rw [tx_pair]
          have h0 := (ih 0 (hwa 0 (by omega)) (hf.2.2 0 (by omega))).1
          have h1 := (ih 1 (hwa 1 (by omega)) (hf.2.2 1 (by omega))).2
          simp only [T.nodes, sumTo, List.length_cons, List.length_append, List.length_nil] at *
          omega
        · rw [tx_cmp _ hp]
          have hq := quote_len hf.2.1
          have h0 := (ih 0 (hwa 0 hm) (hf.2.2 0 hm)).1
          have hr := rest_len (V := nmV nm) (f := a) (m - 1) 1 fun i hi => by
            have := (ih i (hwa i (by omega)) (hf.2.2 i (by omega))).1
            omega
          rw [show 1 + (m - 1) = m by omega] at hr
          simp only [T.nodes, sumTo, List.length_cons, List.length_append, List.length_nil] at *
          omega
    refine ⟨key, ?_⟩
    by_cases hp : k = 4 ∧ s = dotS ∧ m = 2
    · obtain ⟨rfl, rfl, rfl⟩ := hp
      have hwa : ∀ i, i < 2 → (a i).wr := by
        rcases hw with ⟨h, _⟩ | ⟨h, _⟩ | ⟨h, _⟩ | h
        · exact absurd h (by decide)
        · exact absurd h (by decide)
        · exact absurd h (by decide)
        · exact h.2.2.2
      rw [tx_pair]
      have h0 := (ih 0 (hwa 0 (by omega)) (hf.2.2 0 (by omega))).1
      have h1 := (ih 1 (hwa 1 (by omega)) (hf.2.2 1 (by omega))).2
      simp only [T.nodes, sumTo, List.length_cons, List.length_append] at *
      omega
    · by_cases h2 : k = 3 ∧ s = nilS
      · obtain ⟨rfl, rfl⟩ := h2
        rw [tx_nil]
        show 0 + 1 ≤ _
        omega
      · rw [txt_else _ hp h2]
        simp only [List.length_cons]
        omega
theorem wr_pos {t : T} (h : t.wr) : 0 < t.nodes := by
  cases t with
  | nil => exact h.elim
  | mk k n s m a => simp only [T.nodes]; omega
theorem wr_few {k n : Int} {s : ByteArray} {m : Nat} {a : Nat → T} (h : ∀ i, i < m → (a i).wr) : m < (T.mk k n s m a).nodes := by
  have h1 : m ≤ sumTo m fun i => (a i).nodes := sum_ones m _ fun i hi => wr_pos (h i hi)
  simp only [T.nodes]
  omega
theorem wr_cases {k n : Int} {s : ByteArray} {m : Nat} {a : Nat → T} (h : (T.mk k n s m a).wr) : k = 1 ∨ k = 2 ∨ k = 3 ∨ k = 4 := by
  rcases h with h | h | h | h
  · exact .inl h.1
  · exact .inr (.inl h.1)
  · exact .inr (.inr (.inl h.1))
  · exact .inr (.inr (.inr h.1))
theorem wr_cmp {n : Int} {s : ByteArray} {m : Nat} {a : Nat → T} (h : (T.mk 4 n s m a).wr) : (quoteN s).size ≠ 0 ∧ 0 < m ∧ ∀ i, i < m → (a i).wr := by
  rcases h with h | h | h | h
  · exact absurd h.1 (by decide)
  · exact absurd h.1 (by decide)
  · exact absurd h.1 (by decide)
  · exact h.2
theorem wr_var {n : Int} {s : ByteArray} {m : Nat} {a : Nat → T} (h : (T.mk 1 n s m a).wr) : 0 ≤ n := by
  rcases h with h | h | h | h
  · exact h.2
  · exact absurd h.1 (by decide)
  · exact absurd h.1 (by decide)
  · exact absurd h.1 (by decide)
end Go.Proofs.YtiefbdblefliaaaDoor
