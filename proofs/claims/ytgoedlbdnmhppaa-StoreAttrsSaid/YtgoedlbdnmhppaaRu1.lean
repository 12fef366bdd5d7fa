/- The reference's bindings in memory; the walks through coneyref08.find, coneyref08.walk. -/
import Derived.Test.YtgoedlbdnmhppaaUni6
namespace Go.Proofs.Ytgoedlbdnmhppaa
open Go.RowKit

/-- The reference's bindings: a slice of them. -/
structure BL (w : World) (A : Option Addr) (c : Nat) (L : Bs) : Prop where
  cap : L.length ≤ c
  nil : A = none → c = 0
  few : L.length ≤ 1000
  cells : ∀ i p, L[i]? = some p → ∃ (b : Nat) (cs : Array Value) (f : Nat × Nat) (k0 k1 : Int) (k2 : ByteArray) (A0 : Option Addr) (m0 c0 : Nat), A = some ⟨b, 0, none⟩ ∧ w.heap[b]? = some (.cells cs 97 f) ∧
    cs[i * 5]? = some (.int .i64 p.1) ∧ cs[i * 5 + 1]? = some (.int .i64 k0) ∧ cs[i * 5 + 2]? = some (.int .i64 k1) ∧ cs[i * 5 + 3]? = some (.string k2) ∧ cs[i * 5 + 4]? = some (.slice A0 m0 c0) ∧ TP w (fun _ => True) p.2 (.agg #[.int .i64 k0, .int .i64 k1, .string k2, .slice A0 m0 c0])
theorem BL.below {w w' : World} {A : Option Addr} {c : Nat} {L : Bs} (h : BL w A c L) (hb : Below w.heap.size w w') : BL w' A c L :=
  ⟨h.cap, h.nil, h.few, fun i p hp => by
    obtain ⟨b, cs, f, k0, k1, k2, A0, m0, c0, hA, hh, h0, h1, h2, h3, h4, ht⟩ := h.cells i p hp
    exact ⟨b, cs, f, k0, k1, k2, A0, m0, c0, hA, (hb.block b (heap_lt hh)).trans hh, h0, h1, h2, h3, h4, ht.below hb⟩⟩
theorem BL.get {w : World} {A : Option Addr} {c : Nat} {L : Bs} (h : BL w A c L) {i : Nat} {p : Int × T} (hp : L[i]? = some p) : ∃ (b : Nat) (k0 k1 : Int) (k2 : ByteArray) (A0 : Option Addr) (m0 c0 : Nat), A = some ⟨b, 0, none⟩ ∧ b < w.heap.size ∧
    w.cell? ⟨b, i * 5, none⟩ = some (.int .i64 p.1) ∧ w.cell? ⟨b, i * 5 + 1, none⟩ = some (.int .i64 k0) ∧ w.cell? ⟨b, i * 5 + 1 + 1, none⟩ = some (.int .i64 k1) ∧ w.cell? ⟨b, i * 5 + 1 + 2, none⟩ = some (.string k2) ∧ w.cell? ⟨b, i * 5 + 1 + 3, none⟩ = some (.slice A0 m0 c0) ∧ TP w (fun _ => True) p.2 (.agg #[.int .i64 k0, .int .i64 k1, .string k2, .slice A0 m0 c0]) := by
  obtain ⟨b, cs, f, k0, k1, k2, A0, m0, c0, hA, hh, h0, h1, h2, h3, h4, ht⟩ := h.cells i p hp
  have hr := fun (j : Nat) => cell_of_row w b j _ _ _ hh
  exact ⟨b, k0, k1, k2, A0, m0, c0, hA, heap_lt hh, (hr _).trans h0, (hr _).trans h1, (hr _).trans h2, (hr _).trans h3, (hr _).trans h4, ht⟩
theorem findB_at : ∀ {L : Bs} {n : Int} {i : Nat} {x : T}, (∀ (q : Nat) (p : Int × T), q < i → L[q]? = some p → p.1 ≠ n) → L[i]? = some (n, x) → findB L n = some x := by
  intro L
  induction L with
  | nil => intro n i x _ h; simp at h
  | cons p L ih =>
    intro n i x h0 h1
    obtain ⟨k, y⟩ := p
    cases i with
    | zero => simp at h1; obtain ⟨rfl, rfl⟩ := h1; simp [findB]
    | succ i =>
      have hne : k ≠ n := h0 0 (k, y) (Nat.succ_pos i) rfl
      simp only [findB, if_neg hne]
      exact ih (fun q p hq hp => h0 (q + 1) p (Nat.succ_lt_succ hq) (by simpa using hp)) (by simpa using h1)
theorem findB_no : ∀ {L : Bs} {n : Int}, (∀ (q : Nat) (p : Int × T), L[q]? = some p → p.1 ≠ n) → findB L n = none := by
  intro L
  induction L with
  | nil => intro n _; rfl
  | cons p L ih =>
    intro n h0
    obtain ⟨k, y⟩ := p
    have hne : k ≠ n := h0 0 (k, y) rfl
    simp only [findB, if_neg hne]
    exact ih (fun q p hp => h0 (q + 1) p (by simpa using hp))
def FindR (L : Bs) (n : Int) (w0 w : World) (e : Ending) (w' : World) : Prop :=
  (∃ (k0 k1 : Int) (k2 : ByteArray) (A0 : Option Addr) (m0 c0 : Nat), e = .returned (.tuple #[.agg #[.int .i64 k0, .int .i64 k1, .string k2, .slice A0 m0 c0], .bool (findB L n).isSome]) ∧ ∀ x, findB L n = some x → TP w0 (fun _ => True) x (.agg #[.int .i64 k0, .int .i64 k1, .string k2, .slice A0 m0 c0])) ∧ Below w.heap.size w w'
set_option maxRecDepth 100000 in
set_option maxHeartbeats 4000000 in
theorem rfind_any {w0 w : World} {A : Option Addr} {c : Nat} {L : Bs} (h : BL w0 A c L) (n : Int) (hb0 : Below w0.heap.size w0 w) :
    Calls Try.prog 73 #[.slice A L.length c, .int .i64 n] w fun e w' => FindR L n w0 w e w' := by
  have H := Lib.hid h
  have HB0 := Lib.hid hb0
  have hfew := h.few
  have hcap := h.cap
  clear h hb0
  obtain ⟨ln, hln⟩ : ∃ ln, ln = L.length := ⟨_, rfl⟩
  rw [← hln] at hfew hcap ⊢
  have HL := Lib.hid hln
  clear hln
  go_enter Try.func73, Try.ntmps73
  go_wp2_with fail
  go_loop [6] (fun iv => ∃ i : Nat, iv = .int .i64 (i : Int) ∧ i ≤ ln ∧ ∀ q p, q < i → L[q]? = some p → p.1 ≠ n) (fun iv => ln - (intOf iv).toNat)
  case atStart => exact ⟨0, rfl, Nat.zero_le _, fun q p hq => absurd hq (by omega)⟩
  case round =>
    obtain ⟨i, rfl, hi, hno⟩ := hrel
    have HN := Lib.hid hno
    clear hno
    by_cases him : i < ln
    · have him' : (i : Int) < (ln : Int) := by omega
      obtain ⟨p, hp⟩ : ∃ p, L[i]? = some p := ⟨L[i]'(by have := HL.out; omega), List.getElem?_eq_getElem _⟩
      obtain ⟨b, k0, k1, k2, A0, m0, c0, rfl, hbl0, d0, d1, d2, d3, d4, ht⟩ := H.out.get hp
      have hbl : b < w.heap.size := Nat.lt_of_lt_of_le hbl0 HB0.out.size
      have d0 := (HB0.out.cell (p := ⟨b, i * 5, none⟩) hbl0).trans d0
      have d1 := (HB0.out.cell (p := ⟨b, i * 5 + 1, none⟩) hbl0).trans d1
      have d2 := (HB0.out.cell (p := ⟨b, i * 5 + 1 + 1, none⟩) hbl0).trans d2
      have d3 := (HB0.out.cell (p := ⟨b, i * 5 + 1 + 2, none⟩) hbl0).trans d3
      have d4 := (HB0.out.cell (p := ⟨b, i * 5 + 1 + 3, none⟩) hbl0).trans d4
      have HT := Lib.hid ht
      have HP := Lib.hid hp
      clear ht hp
      cases hn : (p.1 == n) with
      | true =>
        have hf : findB L n = some p.2 := findB_at HN.out (by rw [HP.out]; have : p.1 = n := by simpa using hn
                                                              rw [← this])
        have HF := Lib.hid hf
        clear hf
        go_wp2_with fail
        refine bodyPost_ret (v := .tuple #[.agg #[.int .i64 k0, .int .i64 k1, .string k2, .slice A0 m0 c0], .bool true]) (by simp [results, go_sem]) rfl ?_
        exact ⟨⟨k0, k1, k2, A0, m0, c0, by rw [HF.out]; rfl, fun x hx => by rw [HF.out] at hx; injection hx with hx; subst hx; exact HT.out⟩, (Below.refl _ _).alloc (Nat.le_refl _) _⟩
      | false =>
        have hne : p.1 ≠ n := by simpa using hn
        have HNE := Lib.hid hne
        clear hne
        go_wp2_with fail
        go_round
        case rel =>
          refine ⟨i + 1, by go_num, him, fun q p' hq hp' => ?_⟩
          by_cases hqi : q = i
          · subst hqi; rw [HP.out] at hp'; injection hp' with hp'; subst hp'; exact HNE.out
          · exact HN.out q p' (by omega) hp'
        case measure => simp [intOf]; omega
    · obtain rfl : i = ln := by omega
      have hf : findB L n = none := findB_no fun q p hp => HN.out q p (by
        have h1 : q < L.length := by
          rcases Nat.lt_or_ge q L.length with h | h
          · exact h
          · rw [List.getElem?_eq_none h] at hp; cases hp
        have := HL.out; omega) hp
      have HF := Lib.hid hf
      clear hf
      go_wp2_with fail
      refine bodyPost_ret (v := .tuple #[.agg #[.int .i64 0, .int .i64 0, .string ⟨#[]⟩, .slice none 0 0], .bool false]) (by simp [results, go_sem]) rfl ?_
      exact ⟨⟨0, 0, ⟨#[]⟩, none, 0, 0, by rw [HF.out]; rfl, fun x hx => by rw [HF.out] at hx; cases hx⟩, (Below.refl _ _).alloc (Nat.le_refl _) _⟩
end Go.Proofs.Ytgoedlbdnmhppaa
