/- The walk through eval.value, for any term. -/
import Derived.Test.YtifjdfdjojkagaaEval4
namespace Go.Proofs.Ytifjdfdjojkagaa
open Go.RowKit

theorem inR_fitV (x : Int) : InR (fitV x) := ⟨(fitV_bd x).1, (fitV_bd x).2⟩
theorem ite_fst {c : Prop} [Decidable c] {a b : Int × Int} (ha : c → InR a.1) (hb : ¬ c → InR b.1) : InR (if c then a else b).1 := by
  by_cases h : c
  · rw [if_pos h]; exact ha h
  · rw [if_neg h]; exact hb h
theorem num2_inR (l : List UInt8) {x y : Int} (hx : InR x) (hy : InR y) : InR (num2 l x y).1 := by
  have h00 : InR 0 := ⟨by decide, by decide⟩
  have ht : ¬ y = 0 → InR (x.tmod y) := fun h => by
    have := tmod_bd x y h
    unfold InR at *
    omega
  have hm : ¬ y = 0 → InR (modS x y) := fun h => by
    have := modS_bd x y h
    unfold InR at *
    omega
  have hs : InR (shrS x y) := by
    unfold InR shrS at *
    have h2 := two_pow_pos (min y.toNat 63)
    constructor
    · have : -9223372036854775808 * 2 ^ (min y.toNat 63) ≤ x := by
        have : (1 : Int) ≤ 2 ^ (min y.toNat 63) := by omega
        have := Int.mul_le_mul_of_nonneg_left this (show (0 : Int) ≤ 9223372036854775808 by decide)
        omega
      exact (Int.le_ediv_iff_mul_le h2).2 this
    · have h3 : x / 2 ^ (min y.toNat 63) ≤ max x 0 := by
        rcases Int.lt_or_le x 0 with h | h
        · have := Int.ediv_neg_of_neg_of_pos h h2
          omega
        · have := Int.ediv_le_self (2 ^ (min y.toNat 63)) h
          omega
      omega
  have hmin : InR (min x y) := by unfold InR at *; omega
  have hmax : InR (max x y) := by unfold InR at *; omega
  unfold num2
  repeat' first | exact inR_fitV _ | exact h00 | exact hs | exact hmin | exact hmax | assumption | exact ht ‹_› | exact hm ‹_› | refine ite_fst (fun _ => ?_) (fun _ => ?_)
theorem num1_inR (l : List UInt8) {x : Int} (hx : InR x) : InR (num1 l x).1 := by
  have hs : InR (if x < 0 then -1 else if 0 < x then 1 else 0) := by unfold InR at *; split <;> (try split) <;> omega
  unfold num1
  repeat' first | exact inR_fitV _ | exact hx | exact hs | refine ite_fst (fun _ => ?_) (fun _ => ?_)
theorem ev_val {p q : Int} {s : ByteArray} {m : Nat} {x : Int} (h : ev p q s m = .val x) : x = p := by
  unfold ev at h
  repeat' split at h
  all_goals first | (cases h; done) | skip
  cases h; rfl
theorem evT_inR : ∀ t : T, t.inR → ∀ x, evT t = .val x → InR x := by
  intro t
  induction t with
  | nil => intro _ x h; cases h; exact ⟨by decide, by decide⟩
  | mk k n s m a ih =>
    intro hr x h
    unfold evT at h
    by_cases h2 : k = 2
    · rw [if_pos h2] at h; cases h; exact hr.1
    rw [if_neg h2] at h
    by_cases h1 : k = 1
    · rw [if_pos h1] at h; cases h
    rw [if_neg h1] at h
    by_cases m1 : m = 1
    · rw [if_pos m1] at h
      cases ho : isOne s.toList
      · rw [ho] at h; cases h
      · rw [ho, if_pos rfl] at h
        cases h0 : evT (a 0) with
        | val y => rw [h0] at h; unfold ev1 at h; rw [ev_val h]; exact num1_inR _ (ih 0 (hr.2 0 (by omega)) y h0)
        | flt fk fs fn => rw [h0] at h; cases h
    rw [if_neg m1] at h
    by_cases m2 : m = 2
    · rw [if_pos m2] at h
      cases ho : isTwo s.toList
      · rw [ho] at h; cases h
      · rw [ho, if_pos rfl] at h
        cases h0 : evT (a 0) with
        | val y =>
          cases h1 : evT (a 1) with
          | val z => rw [h0, h1] at h; unfold ev2 at h; rw [ev_val h]; exact num2_inR _ (ih 0 (hr.2 0 (by omega)) y h0) (ih 1 (hr.2 1 (by omega)) z h1)
          | flt fk fs fn => rw [h0, h1] at h; cases h
        | flt fk fs fn => rw [h0] at h; cases h
    rw [if_neg m2] at h
    cases h

theorem TAt.of_alloc {w : World} {k n : Int} {s : ByteArray} {m : Nat} {a : Nat → T} {A : Option Addr} {c : Nat} (h : TAt w w.heap.size k n s m a A c) (o : Obj) :
    TAt (w.alloc o) (w.alloc o).heap.size k n s m a A c := by
  obtain ⟨A', c', he, h'⟩ := ((h.shut.below ((Below.refl w.heap.size w).alloc (Nat.le_refl _) o)).more (show w.heap.size ≤ (w.alloc o).heap.size by simp)).open_
  cases he
  exact h'

set_option maxRecDepth 100000 in
set_option maxHeartbeats 2000000 in
theorem value_int (n : Int) (s : ByteArray) (A : Option Addr) (m c : Nat) (w : World) :
    Calls Try.prog 17 #[.agg #[.int .i64 2, .int .i64 n, .string s, .slice A m c]] w fun e w' => e = evEnd (.val n) ∧ Below w.heap.size w w' := by
  go_enter Try.func17, Try.ntmps17
  go_wp2_with fail
  go_ret
  exact ⟨rfl, (Below.refl _ _).alloc (Nat.le_refl _) _⟩
set_option maxRecDepth 100000 in
set_option maxHeartbeats 2000000 in
theorem value_var (n : Int) (s : ByteArray) (A : Option Addr) (m c : Nat) (w : World) :
    Calls Try.prog 17 #[.agg #[.int .i64 1, .int .i64 n, .string s, .slice A m c]] w fun e w' => e = evEnd (.flt 1 noName 0) ∧ Below w.heap.size w w' := by
  go_enter Try.func17, Try.ntmps17
  go_wp2_with fail
  exact ⟨rfl, rfl, (Below.refl _ _).alloc (Nat.le_refl _) _⟩
set_option maxRecDepth 100000 in
set_option maxHeartbeats 2000000 in
theorem value_rest (k n : Int) (s : ByteArray) (A : Option Addr) (m c : Nat) (w : World) (F : Nat) (r : Ev) (h2 : (k == 2) = false) (h1 : (k == 1) = false)
    (hF : (m = 1 ∧ F = 25) ∨ (m = 2 ∧ F = 26) ∨ (¬ m = 1 ∧ ¬ m = 2 ∧ F = 27))
    (hc : ∀ w1, w1 = w.alloc (Obj.cells #[.int .i64 k, .int .i64 n, .string s, .slice A m c] 29) → Calls Try.prog F #[.agg #[.int .i64 k, .int .i64 n, .string s, .slice A m c]] w1 fun e w' => e = evEnd r ∧ Below w1.heap.size w1 w') :
    Calls Try.prog 17 #[.agg #[.int .i64 k, .int .i64 n, .string s, .slice A m c]] w fun e w' => e = evEnd r ∧ Below w.heap.size w w' := by
  have HB1 := Lib.hid ((Below.refl w.heap.size w).alloc (Nat.le_refl _) (Obj.cells #[.int .i64 k, .int .i64 n, .string s, .slice A m c] 29))
  rcases hF with ⟨hm, rfl⟩ | ⟨hm, rfl⟩ | ⟨hm, hm2, rfl⟩
  · subst hm
    rcases r with x | ⟨fk, fs, fn⟩
    all_goals
      go_enter Try.func17, Try.ntmps17
      go_wp2_with fail
      refine (hc _ rfl).mono ?_
      rintro e w3 ⟨rfl, h3⟩
      have H3 := Lib.hid (HB1.out.trans (h3.mono (by simp)))
      clear h3 hc
      simp only [evEnd]
      go_wp2
      first | exact ⟨rfl, rfl, H3.out⟩ | (go_ret; exact ⟨rfl, H3.out⟩)
  · subst hm
    rcases r with x | ⟨fk, fs, fn⟩
    all_goals
      go_enter Try.func17, Try.ntmps17
      go_wp2_with fail
      refine (hc _ rfl).mono ?_
      rintro e w3 ⟨rfl, h3⟩
      have H3 := Lib.hid (HB1.out.trans (h3.mono (by simp)))
      clear h3 hc
      simp only [evEnd]
      go_wp2
      first | exact ⟨rfl, rfl, H3.out⟩ | (go_ret; exact ⟨rfl, H3.out⟩)
  · have g1 : ((m : Int) == 1) = false := by simp; omega
    have g2 : ((m : Int) == 2) = false := by simp; omega
    clear hm hm2
    rcases r with x | ⟨fk, fs, fn⟩
    all_goals
      go_enter Try.func17, Try.ntmps17
      go_wp2_with fail
      refine (hc _ rfl).mono ?_
      rintro e w3 ⟨rfl, h3⟩
      have H3 := Lib.hid (HB1.out.trans (h3.mono (by simp)))
      clear h3 hc
      simp only [evEnd]
      go_wp2
      first | exact ⟨rfl, rfl, H3.out⟩ | (go_ret; exact ⟨rfl, H3.out⟩)

theorem value_any : ∀ t : T, t.inR → ValC t := by
  intro t
  induction t with
  | nil => intro _ v w hv; exact hv.elim
  | mk k n s m a ih =>
    intro hr v w hv
    obtain ⟨A, c, rfl, hT⟩ := hv.open_
    unfold evT
    by_cases h2 : k = 2
    · subst h2; rw [if_pos rfl]; exact value_int n s A m c w
    rw [if_neg h2]
    by_cases h1 : k = 1
    · subst h1; rw [if_pos rfl]; exact value_var n s A m c w
    rw [if_neg h1]
    have g2 : (k == 2) = false := by simpa using h2
    have g1 : (k == 1) = false := by simpa using h1
    by_cases m1 : m = 1
    · subst m1
      rw [if_pos rfl]
      refine value_rest k n s A 1 c w _ _ g2 g1 (.inl ⟨rfl, rfl⟩) ?_
      rintro w1 rfl
      have hT1 := hT.of_alloc (Obj.cells #[.int .i64 k, .int .i64 n, .string s, .slice A 1 c] 29)
      have i0 : ValR (a 0) (evT (a 0)) := ih 0 (hr.2 0 (by omega))
      have b0 := evT_inR (a 0) (hr.2 0 (by omega))
      cases ho : isOne s.toList
      · rw [if_neg (by decide)]
        exact one_no k n s A c _ ho
      · rw [if_pos rfl]
        rcases isOne_yes ho with hs | hs | hs | hs
        · have he : ev1 s (evT (a 0)) = evT (a 0) := by
            cases evT (a 0) with
            | val x => unfold ev1; rw [hs]; rfl
            | flt fk fs fn => rfl
          rw [he]
          exact one_plus k n s a A c _ hT1 _ i0 hs
        · exact one_neg k n s a A c _ hT1 _ i0 hs b0
        · exact one_abs k n s a A c _ hT1 _ i0 hs b0
        · exact one_sign k n s a A c _ hT1 _ i0 hs
    rw [if_neg m1]
    by_cases m2 : m = 2
    · subst m2
      rw [if_pos rfl]
      refine value_rest k n s A 2 c w _ _ g2 g1 (.inr (.inl ⟨rfl, rfl⟩)) ?_
      rintro w1 rfl
      have hT1 := hT.of_alloc (Obj.cells #[.int .i64 k, .int .i64 n, .string s, .slice A 2 c] 29)
      exact two_core k n s a A c _ hT1 (ih 0 (hr.2 0 (by omega))) (ih 1 (hr.2 1 (by omega))) _ _ rfl rfl (evT_inR (a 0) (hr.2 0 (by omega))) (evT_inR (a 1) (hr.2 1 (by omega)))
    rw [if_neg m2]
    refine value_rest k n s A m c w _ _ g2 g1 (.inr (.inr ⟨m1, m2, rfl⟩)) ?_
    rintro w1 rfl
    exact unknown_any k n s A m c _
end Go.Proofs.Ytifjdfdjojkagaa
