/- One pair of terms, and rows of pairs, in words of the sides' kinds: plain lemmas. -/
import Derived.Test.YtgoedlbdnmhppaaMa
namespace Go.Proofs.Ytgoedlbdnmhppaa
open Go.RowKit

theorem pairsOf_zero (g h : Nat → T) : pairsOf 0 g h = [] := rfl
/-- The pairs from the i-th one on. -/
def pairsFrom (i m : Nat) (g h : Nat → T) : List (T × T) := (pairsOf m g h).drop i
theorem pairsFrom_zero (m : Nat) (g h : Nat → T) : pairsFrom 0 m g h = pairsOf m g h := rfl
theorem pairsFrom_step {i m : Nat} (hi : i < m) (g h : Nat → T) : pairsFrom i m g h = (g i, h i) :: pairsFrom (i + 1) m g h := by
  unfold pairsFrom pairsOf
  rw [List.drop_eq_getElem_cons (by simpa using hi)]
  simp
theorem pairsFrom_end (m : Nat) (g h : Nat → T) : pairsFrom m m g h = [] := by
  unfold pairsFrom pairsOf
  rw [List.drop_eq_nil_iff]
  simp
theorem uniF_cons (f : Nat) (L : Bs) (p : T × T) (xs : List (T × T)) : uniF f L (p :: xs) = (uniF f L [p]).then xs := uniF_append f L [p] xs
theorem uniF_one (f : Nat) (L : Bs) (a b : T) : uniF (f + 1) L [(a, b)] = match stepU L (walkN L a) (walkN L b) with
    | .fail => .unlike
    | .bind n t => .ok (L ++ [(n, t)]) f
    | .args m g h => uniF f L (pairsOf m g h) := by
  simp only [uniF]
  cases stepU L (walkN L a) (walkN L b) with
  | fail => rfl
  | bind n t => exact uniF_nil _ _
  | args m g h => simp
/-- What comes of a pair, in words of its sides' kinds. -/
theorem stepU_vv {L : Bs} {na nb : Int} {sa sb : ByteArray} {ma mb : Nat} {fa fb : Nat → T} : stepU L (.mk 1 na sa ma fa) (.mk 1 nb sb mb fb) = if na = nb then .args 0 fa fb else if na < nb then .bind nb (.mk 1 na sa ma fa) else .bind na (.mk 1 nb sb mb fb) := by
  simp [stepU]
theorem stepU_v_no {L : Bs} {ka kb na nb : Int} {sa sb : ByteArray} {ma mb : Nat} {fa fb : Nat → T} (ha : ka = 1) (hb : kb ≠ 1) (hr : ¬ Reach L na (.mk kb nb sb mb fb)) : stepU L (.mk ka na sa ma fa) (.mk kb nb sb mb fb) = .bind na (.mk kb nb sb mb fb) := by
  simp [stepU, ha, hb, hr]
theorem stepU_v_yes {L : Bs} {ka kb na nb : Int} {sa sb : ByteArray} {ma mb : Nat} {fa fb : Nat → T} (ha : ka = 1) (hb : kb ≠ 1) (hr : Reach L na (.mk kb nb sb mb fb)) : stepU L (.mk ka na sa ma fa) (.mk kb nb sb mb fb) = .fail := by
  simp [stepU, ha, hb, hr]
theorem stepU_w_no {L : Bs} {ka kb na nb : Int} {sa sb : ByteArray} {ma mb : Nat} {fa fb : Nat → T} (ha : ka ≠ 1) (hb : kb = 1) (hr : ¬ Reach L nb (.mk ka na sa ma fa)) : stepU L (.mk ka na sa ma fa) (.mk kb nb sb mb fb) = .bind nb (.mk ka na sa ma fa) := by
  simp [stepU, ha, hb, hr]
theorem stepU_w_yes {L : Bs} {ka kb na nb : Int} {sa sb : ByteArray} {ma mb : Nat} {fa fb : Nat → T} (ha : ka ≠ 1) (hb : kb = 1) (hr : Reach L nb (.mk ka na sa ma fa)) : stepU L (.mk ka na sa ma fa) (.mk kb nb sb mb fb) = .fail := by
  simp [stepU, ha, hb, hr]
theorem stepU_no {L : Bs} {ka kb na nb : Int} {sa sb : ByteArray} {ma mb : Nat} {fa fb : Nat → T} (ha : ka ≠ 1) (hb : kb ≠ 1) (h : ka ≠ kb ∨ (ka = 2 ∧ na ≠ nb) ∨ sa ≠ sb ∨ ma ≠ mb) : stepU L (.mk ka na sa ma fa) (.mk kb nb sb mb fb) = .fail := by
  simp only [stepU, if_neg ha, if_neg hb, if_pos h]
theorem stepU_yes {L : Bs} {ka kb na nb : Int} {sa sb : ByteArray} {ma mb : Nat} {fa fb : Nat → T} (ha : ka ≠ 1) (hb : kb ≠ 1) (h1 : ka = kb) (h2 : ka = 2 → na = nb) (h3 : sa = sb) (h4 : ma = mb) : stepU L (.mk ka na sa ma fa) (.mk kb nb sb mb fb) = .args ma fa fb := by
  have h : ¬ (ka ≠ kb ∨ (ka = 2 ∧ na ≠ nb) ∨ sa ≠ sb ∨ ma ≠ mb) := by
    rintro (h | ⟨h, h'⟩ | h | h)
    · exact h h1
    · exact h' (h2 h)
    · exact h h3
    · exact h h4
  simp only [stepU, if_neg ha, if_neg hb, if_neg h]
theorem bytes_eq {a b : ByteArray} (h : a.toList = b.toList) : a = b := by
  rw [ByteArray.toList_eq, ByteArray.toList_eq] at h
  exact ByteArray.ext (Array.ext' h)
/-- Are two terms that are no variables unlike at once? -/
def FailB (ka na : Int) (sa : ByteArray) (ma : Nat) (kb nb : Int) (sb : ByteArray) (mb : Nat) (bb : Bool) : Prop :=
  (bb = true → ka ≠ kb ∨ (ka = 2 ∧ na ≠ nb) ∨ sa ≠ sb ∨ ma ≠ mb) ∧ (bb = false → ka = kb ∧ (ka = 2 → na = nb) ∧ sa = sb ∧ ma = mb)
theorem TP.shape {w : World} {S : Nat → Prop} {t : T} {k n : Int} {s : ByteArray} {A : Option Addr} {m c : Nat} (h : TP w S t (.agg #[.int .i64 k, .int .i64 n, .string s, .slice A m c])) : ∃ a, t = .mk k n s m a := by
  cases t with
  | nil => exact h.elim
  | mk ku nu su mu au =>
    obtain ⟨a0, a1, a2, rfl, _, _, _⟩ := h.args
    injection a0 with _ a0
    injection a1 with _ a1
    injection a2 with a2
    subst a0; subst a1; subst a2
    exact ⟨au, rfl⟩
end Go.Proofs.Ytgoedlbdnmhppaa
