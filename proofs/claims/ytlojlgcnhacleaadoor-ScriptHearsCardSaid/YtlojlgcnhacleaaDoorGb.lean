/- Bytes of texts, and the number that a text is, plain. Numbers' texts, plain: what a number is printed as is read back as it, by Atoi and by the document's Parse. -/
import Derived.WalkKit
import Derived.Lib.ItoaNum
import Derived.RowKit
import Derived.Lib.AtoiAllCases
import Derived.Lib.ItoaLen
namespace Go.Proofs.YtlojlgcnhacleaaDoor
open Go.RowKit

/-- The byte of a text at a place (0 behind its end). -/
def bu (s : ByteArray) (i : Nat) : UInt8 := s.data.toList.getD i 0
def bn (s : ByteArray) (i : Nat) : Nat := (s.data.toList.getD i 0).toNat
theorem bn_bu (s : ByteArray) (i : Nat) : bn s i = (bu s i).toNat := rfl
theorem bn_eq (s : ByteArray) (i : Nat) (h : i < s.size) : (s[i]'h).toNat = bn s i := by
  obtain ⟨⟨l⟩⟩ := s
  have hl : i < l.length := h
  have e : (ByteArray.mk ⟨l⟩)[i]'h = l.getD i 0 := by
    simp only [List.getD, List.getElem?_eq_getElem hl, Option.getD_some]
    rfl
  simp [bn, e]
theorem bn_lt (s : ByteArray) (i : Nat) : bn s i < 256 := by
  unfold bn
  exact UInt8.toNat_lt _

/-- An integer's text: zeros ahead of it are struck. -/
def zerosL : List UInt8 → List UInt8
  | [] => []
  | [c] => [c]
  | c :: d :: l => if c = 48 then zerosL (d :: l) else c :: d :: l
def ba (l : List UInt8) : ByteArray := ⟨l.toArray⟩
/-- The sum of the digits of a text, to the base 10, modulo 2^64. -/
def digS (n : Int) (c : UInt8) : Int := if 48 ≤ (c.toNat : Int) ∧ (c.toNat : Int) ≤ 57 then (n * 10 + ((c.toNat : Int) - 48)) % 18446744073709551616 else n
def digF (l : List UInt8) (n : Int) : Int := l.foldl digS n
/-- The number that a text is: the one whose text it is. -/
def parseN (s : ByteArray) : Option Int :=
  if s.size < 1 ∨ 20 < s.size then none
  else
    let a := wrap64 (digF s.data.toList 0)
    let b := if bn s 0 = 45 then wrap64 (-a) else a
    if Lib.itoa b = s.data.toList then some b else none
end Go.Proofs.YtlojlgcnhacleaaDoor
namespace Go.Proofs.YtlojlgcnhacleaaDoor
open Go.RowKit

theorem dec_small {u : Nat} (h : u < 10) : Lib.decDigits u = [UInt8.ofNat (48 + u)] := by rw [Lib.decDigits, dif_pos h]
theorem dec_big {u : Nat} (h : ¬ u < 10) : Lib.decDigits u = Lib.decDigits (u / 10) ++ [UInt8.ofNat (48 + u % 10)] := by rw [Lib.decDigits, dif_neg h]
theorem digit_nat {d : Nat} (h : d < 10) : (UInt8.ofNat (48 + d)).toNat = 48 + d := by
  rw [UInt8.toNat_ofNat']
  omega
theorem dec_digits : ∀ (u : Nat), ∀ c ∈ Lib.decDigits u, 48 ≤ c.toNat ∧ c.toNat ≤ 57 := by
  intro u
  induction u using Nat.strongRecOn with
  | ind u ih =>
    intro c hc
    by_cases h : u < 10
    · rw [dec_small h, List.mem_singleton] at hc
      rw [hc, digit_nat h]
      omega
    · rw [dec_big h, List.mem_append, List.mem_singleton] at hc
      rcases hc with hc | hc
      · exact ih (u / 10) (by omega) c hc
      · rw [hc, digit_nat (Nat.mod_lt _ (by omega))]
        have := Nat.mod_lt u (show 10 > 0 by omega)
        omega
theorem dec_ne (u : Nat) : Lib.decDigits u ≠ [] := by
  by_cases h : u < 10
  · rw [dec_small h]; simp
  · rw [dec_big h]; simp
/-- No zero stands ahead of a number that is not 0. -/
theorem dec_head : ∀ (u : Nat), u ≠ 0 → ∃ c l, Lib.decDigits u = c :: l ∧ 49 ≤ c.toNat ∧ c.toNat ≤ 57 := by
  intro u
  induction u using Nat.strongRecOn with
  | ind u ih =>
    intro h0
    by_cases h : u < 10
    · exact ⟨_, _, dec_small h, by rw [digit_nat h]; omega, by rw [digit_nat h]; omega⟩
    · obtain ⟨c, l, e, h1, h2⟩ := ih (u / 10) (by omega) (by omega)
      exact ⟨c, l ++ [UInt8.ofNat (48 + u % 10)], by rw [dec_big h, e]; rfl, h1, h2⟩
theorem dec_len : ∀ (k u : Nat), u < 10 ^ (k + 1) → (Lib.decDigits u).length ≤ k + 1
  | 0, u, h => by rw [dec_small (by simpa using h)]; simp
  | k + 1, u, h => by
    by_cases hu : u < 10
    · rw [dec_small hu]; simp
    · rw [dec_big hu, List.length_append]
      have := dec_len k (u / 10) (by rw [Nat.pow_succ] at h; omega)
      simp only [List.length_cons, List.length_nil]
      omega
theorem pu_snoc : ∀ (l : List UInt8) (acc a : Nat) (r : List UInt8), Lib.parseUint10 acc l = .ok a → Lib.parseUint10 acc (l ++ r) = Lib.parseUint10 a r
  | [], acc, a, r, h => by
    simp only [Lib.parseUint10] at h
    injection h with h
    rw [h]; rfl
  | c :: l, acc, a, r, h => by
    rw [List.cons_append]
    simp only [Lib.parseUint10] at h ⊢
    split at h
    · rename_i h1
      rw [if_pos h1]
      split at h
      · cases h
      · rename_i h2
        rw [if_neg h2]
        split at h
        · cases h
        · rename_i h3
          rw [if_neg h3]
          exact pu_snoc l _ a r h
    · cases h
theorem pu_one {a d : Nat} (hd : d < 10) (h : a * 10 + d < 18446744073709551616) : Lib.parseUint10 a [UInt8.ofNat (48 + d)] = .ok (a * 10 + d) := by
  simp only [Lib.parseUint10]
  rw [digit_nat hd, if_pos (by omega), if_neg (by omega), if_neg (by omega)]
  congr 1
  omega
theorem pu_dec : ∀ (u : Nat), u < 18446744073709551616 → Lib.parseUint10 0 (Lib.decDigits u) = .ok u := by
  intro u
  induction u using Nat.strongRecOn with
  | ind u ih =>
    intro hu
    by_cases h : u < 10
    · rw [dec_small h, pu_one h (by omega)]
      simp
    · rw [dec_big h, pu_snoc _ _ _ _ (ih (u / 10) (by omega) (by omega)), pu_one (Nat.mod_lt _ (by omega)) (by omega)]
      congr 1
      omega
theorem atoi_itoa {n : Int} (h0 : -9223372036854775808 ≤ n) (h1 : n ≤ 9223372036854775807) : Lib.atoiAll (Lib.itoa n) = .ok n := by
  unfold Lib.itoa
  by_cases h : n < 0
  · rw [if_pos h, Lib.atoiAll_minus]
    unfold Lib.parseMag
    rw [if_neg (dec_ne _), pu_dec _ (by omega)]
    simp only [Lib.signed]
    rw [if_neg (by omega)]
    congr 1
    omega
  · rw [if_neg h]
    obtain ⟨c, l, e, h2, h3⟩ : ∃ c l, Lib.decDigits n.toNat = c :: l ∧ 48 ≤ c.toNat ∧ c.toNat ≤ 57 := by
      cases hd : Lib.decDigits n.toNat with
      | nil => exact absurd hd (dec_ne _)
      | cons c l => exact ⟨c, l, rfl, dec_digits n.toNat c (by rw [hd]; exact List.mem_cons_self)⟩
    have hp : Lib.parseMag (c :: l) = .ok n.toNat := by
      rw [← e]
      unfold Lib.parseMag
      rw [if_neg (dec_ne _)]
      exact pu_dec _ (by omega)
    rw [e, Lib.atoiAll_plain c l (by omega) (by omega), hp]
    simp only [Lib.signless]
    rw [if_neg (by omega)]
    congr 1
    omega
theorem digF_app (l r : List UInt8) (n : Int) : digF (l ++ r) n = digF r (digF l n) := by simp [digF]
theorem digS_one {a d : Nat} (hd : d < 10) (h : a * 10 + d < 18446744073709551616) : digS (a : Int) (UInt8.ofNat (48 + d)) = ((a * 10 + d : Nat) : Int) := by
  unfold digS
  rw [digit_nat hd, if_pos (by omega)]
  omega
theorem digF_dec : ∀ (u : Nat), u < 18446744073709551616 → digF (Lib.decDigits u) 0 = (u : Int) := by
  intro u
  induction u using Nat.strongRecOn with
  | ind u ih =>
    intro hu
    by_cases h : u < 10
    · rw [dec_small h]
      have := digS_one (a := 0) h (by omega)
      simpa [digF] using this
    · rw [dec_big h, digF_app, ih (u / 10) (by omega) (by omega)]
      have := digS_one (a := u / 10) (d := u % 10) (Nat.mod_lt _ (by omega)) (by omega)
      simp only [digF, List.foldl_cons, List.foldl_nil]
      rw [this]
      omega
theorem parse_itoa {s : ByteArray} {n : Int} (hs : s.data.toList = Lib.itoa n) (h0 : -9223372036854775808 ≤ n) (h1 : n ≤ 9223372036854775807) : parseN s = some n := by
  have hl : s.data.toList.length = s.size := Array.length_toList
  have key : ∀ (b : Int), b = n → (if Lib.itoa b = s.data.toList then some b else none) = some n := fun b e => by rw [e, if_pos hs.symm]
  unfold parseN
  by_cases h : n < 0
  · have e : s.data.toList = 45 :: Lib.decDigits n.natAbs := by rw [hs, Lib.itoa, if_pos h]
    have h2 := dec_len 18 n.natAbs (by omega)
    rw [e] at hl
    simp only [List.length_cons] at hl
    have hb : bn s 0 = 45 := by unfold bn; rw [e]; rfl
    have hd : digF s.data.toList 0 = (n.natAbs : Int) := by
      rw [e]
      show digF (Lib.decDigits n.natAbs) (digS 0 45) = _
      rw [show digS 0 45 = 0 from rfl]
      exact digF_dec _ (by omega)
    have hv : (if bn s 0 = 45 then wrap64 (-wrap64 (digF s.data.toList 0)) else wrap64 (digF s.data.toList 0)) = n := by
      rw [if_pos hb, hd]
      unfold wrap64
      omega
    rw [if_neg (by omega)]
    dsimp only
    rw [hv]
    exact key _ rfl
  · have e : s.data.toList = Lib.decDigits n.toNat := by rw [hs, Lib.itoa, if_neg h]
    have h2 := dec_len 18 n.toNat (by omega)
    obtain ⟨c, l, e2, h3, h4⟩ : ∃ c l, Lib.decDigits n.toNat = c :: l ∧ 48 ≤ c.toNat ∧ c.toNat ≤ 57 := by
      cases hd : Lib.decDigits n.toNat with
      | nil => exact absurd hd (dec_ne _)
      | cons c l => exact ⟨c, l, rfl, dec_digits n.toNat c (by rw [hd]; exact List.mem_cons_self)⟩
    rw [e] at hl
    have h5 : 0 < (Lib.decDigits n.toNat).length := by rw [e2]; simp
    have hb : bn s 0 = c.toNat := by unfold bn; rw [e, e2]; rfl
    have hd : digF s.data.toList 0 = (n.toNat : Int) := by rw [e]; exact digF_dec _ (by omega)
    have hv : (if bn s 0 = 45 then wrap64 (-wrap64 (digF s.data.toList 0)) else wrap64 (digF s.data.toList 0)) = n := by
      rw [if_neg (by omega), hd]
      unfold wrap64
      omega
    rw [if_neg (by omega)]
    dsimp only
    rw [hv]
    exact key _ rfl
/-- A text's number is the one that is printed as it. -/
theorem parse_some {s : ByteArray} {n : Int} (h : parseN s = some n) : Lib.itoa n = s.data.toList ∧ -9223372036854775808 ≤ n ∧ n ≤ 9223372036854775807 := by
  have one : ∀ b : Int, (if Lib.itoa b = s.data.toList then some b else none) = some n → Lib.itoa n = s.data.toList ∧ b = n := fun b hb => by
    split at hb
    · rename_i he
      injection hb with hb
      exact ⟨hb ▸ he, hb⟩
    · cases hb
  unfold parseN at h
  split at h
  · cases h
  · obtain ⟨h1, h2⟩ := one _ h
    refine ⟨h1, ?_⟩
    rw [← h2]
    unfold wrap64
    split <;> omega
theorem parse_not {s : ByteArray} (h : ∀ n : Int, -9223372036854775808 ≤ n → n ≤ 9223372036854775807 → Lib.itoa n ≠ s.data.toList) : parseN s = none := by
  cases hp : parseN s with
  | none => rfl
  | some n => exact absurd (parse_some hp).1 (h n (parse_some hp).2.1 (parse_some hp).2.2)
end Go.Proofs.YtlojlgcnhacleaaDoor
