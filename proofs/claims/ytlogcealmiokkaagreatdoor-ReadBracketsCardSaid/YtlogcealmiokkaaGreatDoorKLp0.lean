/- Plain lemmas: the library's searches in the words of the plain lexer. -/
import Derived.Test.YtlogcealmiokkaaGreatDoorKGb
import Derived.Lib.IndexMore
import Derived.Lib.IndexLaws
import Derived.Lib.Strings
namespace Go.Proofs.YtlogcealmiokkaaGreatDoor
theorem list_len (s : ByteArray) : s.data.toList.length = s.size := by rw [Array.length_toList]; rfl
theorem list_extract (s : ByteArray) (a b : Nat) : (s.extract a b).data.toList = (s.data.toList.drop a).take (b - a) := by
 rw [ByteArray.data_extract, Array.toList_extract]
theorem list_rest (s : ByteArray) (a : Nat) : (s.extract a s.size).data.toList = s.data.toList.drop a := by
 rw [list_extract]
 apply List.take_of_length_le
 rw [List.length_drop, list_len]
 omega
theorem list_at (s : ByteArray) {i : Nat} (h : i < s.size) : s.data.toList[i]? = some (bu s i) := by
 unfold bu
 rw [List.getD_eq_getElem?_getD, List.getElem?_eq_getElem (by rw [list_len]; exact h)]
 rfl
theorem list_no (s : ByteArray) {i : Nat} (h : s.size ≤ i) : s.data.toList[i]? = none := List.getElem?_eq_none (by rw [list_len]; exact h)
theorem bn_extract (s : ByteArray) (a b : Nat) {i : Nat} (h : a + i < b) : bn (s.extract a b) i = bn s (a + i) := by
 unfold bn
 rw [list_extract, List.getD_eq_getElem?_getD, List.getD_eq_getElem?_getD, List.getElem?_take, if_pos (by omega), List.getElem?_drop]
theorem pre_two (s : ByteArray) (p : Nat) (a b : UInt8) : List.isPrefixOf [a, b] (s.data.toList.drop p) = twoB s p a.toNat b.toNat := by
 have h0 := List.getElem?_drop (xs := s.data.toList) (i := p) (j := 0)
 have h1 := List.getElem?_drop (xs := s.data.toList) (i := p) (j := 1)
 unfold twoB
 by_cases hp : p + 1 < s.size
 ·rw [list_at s (by omega)] at h0
  rw [list_at s hp] at h1
  match hd : s.data.toList.drop p, h0, h1 with
  | x :: y :: l, h0, h1 =>
   simp at h0 h1
   subst h0; subst h1
   have e : ∀ (u v : UInt8), (u == v) = (((v.toNat : Nat) : Int) == ((u.toNat : Nat) : Int)) := fun u v => by
    rw [Bool.eq_iff_iff, beq_iff_eq, beq_iff_eq]
    exact ⟨fun h => by rw [h], fun h => UInt8.toNat_inj.1 (by omega)⟩
   simp only [List.isPrefixOf, decide_eq_true hp, Bool.true_and, Bool.and_true, bn_bu]
   rw [e, e]
 ·rw [decide_eq_false hp]
  rw [list_no s (by omega)] at h1
  match hd : s.data.toList.drop p, h1 with
  | [], _ => rfl
  | [x], _ => simp [List.isPrefixOf]
theorem has_two (s : ByteArray) (p : Nat) (a b : UInt8) : Lib.hasPrefix (s.extract p s.size).data.toList [a, b] = twoB s p a.toNat b.toNat := by
 unfold Lib.hasPrefix
 rw [list_rest, pre_two]
theorem line_at (s : ByteArray) : ∀ (n j : Nat), j + n ≤ s.size → (∀ x, x < n → ((bn s (j + x) : Int) != 10) = true) → (j + n = s.size ∨ ((bn s (j + n) : Int) != 10) = false) → lineN s j = j + n
 | 0, j, _, _, h => by
  rcases h with h | h
  ·exact lineN_end (by omega)
  ·exact lineN_stop h
 | n + 1, j, hl, hx, h => by
  rw [lineN_step (by omega) (by have := hx 0 (by omega); simpa using this), line_at s n (j + 1) (by omega) (fun x hx' => by have := hx (x + 1) (by omega); rwa [show j + (x + 1) = j + 1 + x by omega] at this) (by rcases h with h | h; exact .inl (by omega); exact .inr (by rwa [show j + (n + 1) = j + 1 + n by omega] at h))]
  omega
theorem end_at (s : ByteArray) : ∀ (n j : Nat), j + n ≤ s.size → (∀ x, x < n → twoB s (j + x) 42 47 = false) → (j + n = s.size ∨ twoB s (j + n) 42 47 = true) → endN s j = j + n
 | 0, j, _, _, h => by
  rcases h with h | h
  ·exact endN_end (by omega)
  ·exact endN_stop h
 | n + 1, j, hl, hx, h => by
  rw [endN_step (by omega) (by have := hx 0 (by omega); simpa using this), end_at s n (j + 1) (by omega) (fun x hx' => by have := hx (x + 1) (by omega); rwa [show j + (x + 1) = j + 1 + x by omega] at this) (by rcases h with h | h; exact .inl (by omega); exact .inr (by rwa [show j + (n + 1) = j + 1 + n by omega] at h))]
  omega
theorem ne10 (c : UInt8) : (((c.toNat : Nat) : Int) != 10) = true ↔ c ≠ 10 := by
 rw [bne_iff_ne]
 constructor
 ·rintro h rfl; exact h rfl
 ·intro h e
  exact h (UInt8.toNat_inj.1 (by have : (10 : UInt8).toNat = 10 := rfl; omega))
theorem idx_line (s : ByteArray) (j : Nat) (hj : j ≤ s.size) : (Lib.indexByte (s.extract j s.size).data.toList 10 < 0 ∧ lineN s j = s.size) ∨ ∃ n : Nat, Lib.indexByte (s.extract j s.size).data.toList 10 = (n : Int) ∧ lineN s j = j + n ∧ j + n < s.size := by
 rw [list_rest]
 have hge := Lib.indexByte_ge (s.data.toList.drop j) 10
 rcases Int.lt_or_le (Lib.indexByte (s.data.toList.drop j) 10) 0 with h | h
 ·refine .inl ⟨h, ?_⟩
  have hn := Lib.indexByte_none (l := s.data.toList.drop j) (c := 10) (by omega)
  have := line_at s (s.size - j) j (by omega) (fun x hx => by
   have h1 := hn x
   rw [List.getElem?_drop, list_at s (by omega)] at h1
   rw [bn_bu, ne10]
   exact fun e => h1 (by rw [e])) (.inl (by omega))
  omega
 ·obtain ⟨n, hn⟩ : ∃ n : Nat, Lib.indexByte (s.data.toList.drop j) 10 = (n : Int) := ⟨_, (Int.toNat_of_nonneg h).symm⟩
  obtain ⟨h1, h2⟩ := Lib.indexByte_some hn
  rw [List.getElem?_drop] at h1
  have hlt : j + n < s.size := by
   rcases Nat.lt_or_ge (j + n) s.size with h3 | h3
   ·exact h3
   ·rw [list_no s h3] at h1; cases h1
  refine .inr ⟨n, hn, line_at s n j (by omega) (fun x hx => ?_) (.inr ?_), hlt⟩
  ·have h3 := h2 x hx
   rw [List.getElem?_drop, list_at s (by omega)] at h3
   rw [bn_bu, ne10]
   exact fun e => h3 (by rw [e])
  ·rw [list_at s hlt] at h1
   injection h1 with h1
   rw [bn_bu, h1]
   rfl
theorem idx_end (s : ByteArray) (j : Nat) (hj : j ≤ s.size) : (Lib.index (s.extract j s.size).data.toList [42, 47] < 0 ∧ endN s j = s.size) ∨ ∃ n : Nat, Lib.index (s.extract j s.size).data.toList [42, 47] = (n : Int) ∧ endN s j = j + n ∧ j + n < s.size := by
 rw [list_rest]
 have ho : ∀ x, Lib.occAt (s.data.toList.drop j) [42, 47] x = twoB s (j + x) 42 47 := fun x => by
  unfold Lib.occAt
  rw [List.drop_drop]
  exact pre_two s (j + x) 42 47
 rcases Lib.index_spec (s.data.toList.drop j) [42, 47] with ⟨h1, h2⟩ | ⟨n, h1, h2, h3, h4⟩
 ·refine .inl ⟨by omega, ?_⟩
  have := end_at s (s.size - j) j (by omega) (fun x hx => by rw [← ho]; exact h2 x (by rw [List.length_drop, list_len]; omega)) (.inl (by omega))
  omega
 ·rw [ho] at h3
  have hlt := twoB_lt h3
  exact .inr ⟨n, h1, end_at s n j (by omega) (fun x hx => by rw [← ho]; exact h4 x hx) (.inr h3), by omega⟩
end Go.Proofs.YtlogcealmiokkaaGreatDoor
