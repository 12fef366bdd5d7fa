/- The walk of ReadBrackets; a term in brackets twice is that in brackets once. -/
import Derived.Test.YtlogcealmiokkaaGreatDoorKGv
import Derived.Test.YtlogcealmiokkaaGreatDoorKGb
import Derived.Test.YtlogcealmiokkaaGreatDoorKGu
import Derived.Test.YtlogcealmiokkaaGreatDoorKCwNums
import Derived.Test.YtlogcealmiokkaaGreatDoorKRd14
import Derived.Test.YtlogcealmiokkaaGreatDoorKLp0
import Derived.Test.YtlogcealmiokkaaGreatDoorKRd6
namespace Go.Proofs.YtlogcealmiokkaaGreatDoor
open Go.RowKit
end Go.Proofs.YtlogcealmiokkaaGreatDoor
namespace Go.Proofs.YtlogcealmiokkaaGreatDoor
theorem Alike.toks {u u' : ByteArray} {o o' n : Nat} (h : Alike u u' o o' n) : ∀ (m k : Nat) (l l' r : List Tk), n - k ≤ m → k ≤ n → (∀ f, k ≤ f → opens l.getLast? (o + f) = opens l'.getLast? (o' + f)) → toksN u' (o' + k) l' = .ok r →
 ∃ x, r = l' ++ x ∧ (∀ y ∈ x, o' ≤ y.a ∧ o' ≤ y.b) ∧ (l.length + x.length ≤ 1000 → toksN u (o + k) l = .ok (l ++ x.map (Tk.sh o o')))
 | m, k, l, l', r, hm, hk, ho, ht => by
  have h1 := h.su
  have h2 := h.su'
  by_cases hkn : k < n
  ·rw [toksN_one (by omega)] at ht
   obtain ⟨d, b, h3, h4, h5⟩ := h.betN k
   have hge := betN_ge (s := u') (j := o' + k) (by omega)
   rw [h4] at ht hge
   dsimp only at hge
   cases b with
   | false => cases ht
   | true =>
    dsimp only at ht
    by_cases hd : d = n
    ·rw [if_pos (by omega)] at ht
     injection ht with ht
     subst ht
     refine ⟨[], by simp, by simp, fun _ => ?_⟩
     rw [toksN_one (by omega), h3]
     dsimp only
     rw [if_pos (by omega)]
     simp
    ·rw [if_neg (by omega)] at ht
     cases hy : oneN u' (o' + d) l' with
     | bad p e => rw [hy] at ht; cases ht
     | ok y =>
      rw [hy] at ht
      dsimp only at ht
      have hok := oneN_ok hy (by omega)
      by_cases hl : l.length = 1000
      ·obtain ⟨c, hc⟩ : ∃ c, y.b = o' + c := ⟨y.b - o', by omega⟩
       match m, hm with
       | 0, hm => omega
       | m + 1, hm =>
        rw [hc] at ht
        obtain ⟨x, rfl, h7, h8⟩ := h.toks m c (l ++ [y.sh o o']) (l' ++ [y]) r (by omega) (by omega) (by
         intro f hf
         simp only [List.getLast?_append, List.getLast?_singleton, Option.some_or, opens, Tk.sh]
         congr 1
         rw [hc]
         apply Bool.eq_iff_iff.2
         simp only [beq_iff_eq]
         omega) ht
        refine ⟨y :: x, by simp, ?_, fun hh => ?_⟩
        ·intro z hz
         rcases List.mem_cons.1 hz with rfl | hz
         ·omega
         ·exact h7 z hz
        ·simp at hh; omega
      ·obtain ⟨h6, ha, c, hc⟩ := h.one d l l' (ho d h5) hy hl
       match m, hm with
       | 0, hm => omega
       | m + 1, hm =>
        rw [hc] at ht
        obtain ⟨x, rfl, h7, h8⟩ := h.toks m c (l ++ [y.sh o o']) (l' ++ [y]) r (by omega) (by omega) (by
         intro f hf
         simp only [List.getLast?_append, List.getLast?_singleton, Option.some_or, opens, Tk.sh]
         congr 1
         rw [hc]
         apply Bool.eq_iff_iff.2
         simp only [beq_iff_eq]
         omega) ht
        refine ⟨y :: x, by simp, ?_, fun hh => ?_⟩
        ·intro z hz
         rcases List.mem_cons.1 hz with rfl | hz
         ·omega
         ·exact h7 z hz
        ·rw [toksN_one (by omega), h3]
         dsimp only
         rw [if_neg (by omega), h6]
         dsimp only
         have hb : (y.sh o o').b = o + c := by simp only [Tk.sh]; omega
         rw [hb, h8 (by simp at hh ⊢; omega)]
         simp
  ·have hkk : k = n := by omega
   subst hkk
   rw [toksN_end (by omega)] at ht
   injection ht with ht
   subst ht
   exact ⟨[], by simp, by simp, fun _ => by rw [toksN_end (by omega)]; simp⟩
theorem bet_toks {u : ByteArray} {j j' : Nat} (hj : j < u.size) (hj' : j' ≤ u.size) (h : betN u j = betN u j') (l : List Tk) : toksN u j l = toksN u j' l := by
 by_cases h1 : j' < u.size
 ·rw [toksN_one hj, toksN_one h1, h]
 ·rw [toksN_end (k := j') (by omega), toksN_one hj, h, betN_end (by omega)]
  dsimp only
  rw [if_pos (by omega)]
theorem Ahead.toks {s u : ByteArray} (h : Ahead s u) : ∀ (m k : Nat) (l r : List Tk), s.size - k ≤ m → k ≤ s.size → toksN s k l = .ok r → toksN u k l = toksN u s.size r
 | m, k, l, r, hm, hk, ht => by
  have hlt := h.lt
  by_cases hks : k < s.size
  ·rw [toksN_one hks] at ht
   cases hbe : Go.Proofs.YtlogcealmiokkaaGreatDoor.betN s k with
   | mk f b =>
    rw [hbe] at ht
    have hge := betN_ge (s := s) (j := k) (by omega)
    rw [hbe] at hge
    dsimp only at hge
    cases b with
    | false => cases ht
    | true =>
     dsimp only at ht
     have hb := h.betN _ k f (Nat.le_refl _) hk hbe
     by_cases hf : f = s.size
     ·rw [if_pos hf] at ht
      injection ht with ht
      subst ht
      exact bet_toks (by omega) (by omega) (hb.2 hf) l
     ·rw [if_neg hf] at ht
      cases ho : oneN s f l with
      | bad p e => rw [ho] at ht; cases ht
      | ok x =>
       rw [ho] at ht
       have hx := oneN_ok ho (by omega)
       rw [toksN_one (s := u) (k := k) (by omega), hb.1 (by omega)]
       dsimp only
       rw [if_neg (by omega), h.one (by omega) ho]
       match m, hm with
       | 0, hm => omega
       | m + 1, hm => exact h.toks m x.b _ r (by omega) (by omega) ht
  ·have hkk : k = s.size := by omega
   subst hkk
   rw [toksN_end (Nat.le_refl _)] at ht
   injection ht with ht
   subst ht
   rfl
theorem lex_toks {s : ByteArray} {r : List Tk} (h : lexN s = .ok r) : toksN s 0 [] = .ok r ∧ s.size ≤ 4096 := by
 unfold lexN at h
 split at h
 ·cases h
 ·exact ⟨h, by omega⟩
theorem toks_lex {s : ByteArray} {r : List Tk} (h : toksN s 0 [] = .ok r) (hs : s.size ≤ 4096) : lexN s = .ok r := by
 unfold lexN
 rw [if_neg (by omega)]
 exact h
end Go.Proofs.YtlogcealmiokkaaGreatDoor
namespace Go.Proofs.YtlogcealmiokkaaGreatDoor
end Go.Proofs.YtlogcealmiokkaaGreatDoor
namespace Go.Proofs.YtlogcealmiokkaaGreatDoor
open Go.RowKit
end Go.Proofs.YtlogcealmiokkaaGreatDoor
namespace Go.Proofs.YtlogcealmiokkaaGreatDoor
open Go.RowKit
section
variable (V : Int → List UInt8)
end
section
variable (V : Int → List UInt8)
end
end Go.Proofs.YtlogcealmiokkaaGreatDoor
namespace Go.Proofs.YtlogcealmiokkaaGreatDoor
open Go.RowKit
section
variable (V : Int → List UInt8)
end
theorem Ok52.pure {c : Prop} {α : Type} (x : α × Nat × List ByteArray) : Ok52 c (.ok x) x := .inl rfl
section
variable {tk : List Tk} {sz : Nat}
end
end Go.Proofs.YtlogcealmiokkaaGreatDoor
namespace Go.Proofs.YtlogcealmiokkaaGreatDoor
open Go.RowKit
end Go.Proofs.YtlogcealmiokkaaGreatDoor
namespace Go.Proofs.YtlogcealmiokkaaGreatDoor
open Go.RowKit
end Go.Proofs.YtlogcealmiokkaaGreatDoor
namespace Go.Proofs.YtlogcealmiokkaaGreatDoor
open Go.RowKit
section
variable {V : Int → List UInt8} {u : ByteArray}
end
end Go.Proofs.YtlogcealmiokkaaGreatDoor
namespace Go.Proofs.YtlogcealmiokkaaGreatDoor
open Go.RowKit
end Go.Proofs.YtlogcealmiokkaaGreatDoor
namespace Go.Proofs.YtlogcealmiokkaaGreatDoor
open Go.RowKit
structure Nl (s u : ByteArray) : Prop extends Ahead s u where
 nl : (bn u s.size : Int) = 10
 star : ∀ i, s.size ≤ i → (bn u i : Int) ≠ 42
section
variable {s u : ByteArray}
theorem Nl.end_after (h : Nl s u) : ∀ (m j : Nat), u.size - j ≤ m → s.size ≤ j → ¬ endN u j < u.size
 | m, j, hm, hj => by
  by_cases hju : j < u.size
  ·rw [endN_step hju (by unfold twoB; rw [show (((bn u j : Nat) : Int) == 42) = false from by simpa using h.star j hj]; simp)]
   match m, hm with
   | 0, hm => omega
   | m + 1, hm => exact h.end_after m (j + 1) (by omega) (by omega)
  ·rw [endN_end (by omega)]
   omega
theorem Nl.end_un (h : Nl s u) : ∀ (m j : Nat), s.size - j ≤ m → ¬ endN s j < s.size → ¬ endN u j < u.size
 | m, j, hm, he => by
  have hlt := h.lt
  by_cases hjs : j < s.size
  ·cases hk : twoB s j 42 47
   ·rw [endN_step hjs hk] at he
    rw [endN_step (by omega) (by rw [h.two hjs (by decide)]; exact hk)]
    match m, hm with
    | 0, hm => omega
    | m + 1, hm => exact h.end_un m (j + 1) (by omega) he
   ·rw [endN_stop hk] at he
    exact absurd hjs he
  ·exact h.end_after _ j (Nat.le_refl _) (by omega)
theorem Nl.bet_back (h : Nl s u) : ∀ (m j f : Nat), s.size - j ≤ m → j ≤ s.size → betN u j = (f, true) → ∃ f', betN s j = (f', true)
 | m, j, f, hm, hj, hb => by
  have hlt := h.lt
  by_cases hjs : j < s.size
  ·rw [betN_eq (s := u) (by omega), h.bn hjs, h.two hjs (by decide)] at hb
   rw [betN_eq hjs]
   split at hb
   ·rename_i h1
    rw [if_pos h1]
    match m, hm with
    | 0, hm => omega
    | m + 1, hm => exact h.bet_back m (j + 1) f (by omega) (by omega) hb
   ·rename_i h1
    rw [if_neg h1]
    split at hb
    ·rename_i h2
     rw [if_pos h2]
     have hg := line_gt hjs h2
     have hle := lineN_le (s := s) (j := j) hj
     have hl := h.lineN _ j (Nat.le_refl _) hj
     by_cases hls : lineN s j < s.size
     ·rw [hl.1 hls] at hb
      match m, hm with
      | 0, hm => omega
      | m + 1, hm => exact h.bet_back m _ f (by omega) (by omega) hb
     ·exact ⟨_, betN_end (by omega)⟩
    ·rename_i h2
     rw [if_neg h2]
     split at hb
     ·rename_i h3
      rw [if_pos h3]
      split at hb
      ·rename_i h4
       have h5 : endN s (j + 2) < s.size := by
        rcases Nat.lt_or_ge (endN s (j + 2)) s.size with h9 | h9
        ·exact h9
        ·exact absurd h4 (h.end_un _ (j + 2) (Nat.le_refl _) (by omega))
       have h6 := endN_ge s (j + 2)
       have h7 := twoB_lt (endN_two h5)
       rw [if_pos h5]
       rw [h.endN _ (j + 2) (Nat.le_refl _) h5] at hb
       match m, hm with
       | 0, hm => omega
       | m + 1, hm => exact h.bet_back m _ f (by omega) (by omega) hb
      ·injection hb with _ hb; cases hb
     ·rename_i h3
      rw [if_neg h3]
      exact ⟨_, rfl⟩
  ·exact ⟨_, betN_end (by omega)⟩
theorem Nl.quo_back (h : Nl s u) (i : Nat) (t : List UInt8) (p : Nat) : ∀ (m k : Nat) (b : List UInt8), s.size - k ≤ m → k ≤ s.size → quoN u i k b = .ok t p → ∃ t' p', quoN s i k b = .ok t' p'
 | m, k, b, hm, hk, hq => by
  have hlt := h.lt
  by_cases hks : k < s.size
  ·rw [quoN_eq (s := u) (by omega), h.bn hks, h.two hks (by decide), h.eq k hks] at hq
   rw [quoN_eq hks]
   split at hq
   ·rename_i h1
    rw [if_pos h1]
    have h2 := twoB_lt h1
    match m, hm with
    | 0, hm => omega
    | m + 1, hm => exact h.quo_back i t p m _ _ (by omega) (by omega) hq
   ·rename_i h1
    rw [if_neg h1]
    split at hq
    ·rename_i h2
     rw [if_pos h2]
     exact ⟨_, _, rfl⟩
    ·rename_i h2
     rw [if_neg h2]
     split at hq
     ·rename_i h3
      rw [if_pos h3]
      split at hq
      ·cases hq
      ·by_cases h5 : k + 1 = s.size
       ·rw [h5, h.nl] at hq
        simp at hq
       ·have h6 : k + 1 < s.size := by omega
        rw [if_neg h5]
        rw [h.bn h6, h.eq _ h6] at hq
        split at hq
        ·rename_i h7
         rw [if_pos h7]
         match m, hm with
         | 0, hm => omega
         | m + 1, hm => exact h.quo_back i t p m _ _ (by omega) (by omega) hq
        ·rename_i h7
         rw [if_neg h7]
         split at hq
         ·rename_i h8
          rw [if_pos h8]
          match m, hm with
          | 0, hm => omega
          | m + 1, hm => exact h.quo_back i t p m _ _ (by omega) (by omega) hq
         ·rename_i h8
          rw [if_neg h8]
          split at hq
          ·rename_i h9
           rw [if_pos h9]
           match m, hm with
           | 0, hm => omega
           | m + 1, hm => exact h.quo_back i t p m _ _ (by omega) (by omega) hq
          ·cases hq
     ·rename_i h3
      rw [if_neg h3]
      split at hq
      ·cases hq
      ·rename_i h4
       rw [if_neg h4]
       match m, hm with
       | 0, hm => omega
       | m + 1, hm => exact h.quo_back i t p m _ _ (by omega) (by omega) hq
  ·have hkk : k = s.size := by omega
   subst hkk
   rw [quoN_eq (s := u) (by omega), h.nl, two_first (by rw [h.nl]; rfl)] at hq
   simp at hq
theorem Nl.one_back (h : Nl s u) {f : Nat} (hf : f < s.size) {l : List Tk} {x : Tk} (hx : oneN u f l = .ok x) : ∃ x', oneN s f l = .ok x' := by
 unfold oneN at hx ⊢
 rw [h.headN hf] at hx
 cases hh : headN s f l.getLast? with
 | none => rw [hh] at hx; cases hx
 | some q =>
  obtain ⟨K, j⟩ := q
  rw [hh] at hx
  dsimp only at hx ⊢
  split at hx
  ·cases hx
  ·rename_i hl
   rw [if_neg hl]
   rw [h.bn hf] at hx
   split at hx
   ·rename_i h39
    rw [if_pos h39]
    cases hq : quoN u f (f + 1) [] with
    | ok t p =>
     obtain ⟨t', p', hq'⟩ := h.quo_back f t p _ _ _ (Nat.le_refl _) (by omega) hq
     rw [hq']
     exact ⟨_, rfl⟩
    | bad p e => rw [hq] at hx; cases hx
   ·rename_i h39
    rw [if_neg h39]
    exact ⟨_, rfl⟩
theorem Nl.toks_back (h : Nl s u) : ∀ (m k : Nat) (l r : List Tk), s.size - k ≤ m → k ≤ s.size → toksN u k l = .ok r → ∃ a, toksN s k l = .ok a
 | m, k, l, r, hm, hk, ht => by
  have hlt := h.lt
  by_cases hks : k < s.size
  ·rw [toksN_one (s := u) (by omega)] at ht
   rw [toksN_one hks]
   cases hbe : betN u k with
   | mk f b =>
    rw [hbe] at ht
    cases b with
    | false => cases ht
    | true =>
     obtain ⟨f', hb'⟩ := h.bet_back _ k f (Nat.le_refl _) hk hbe
     rw [hb']
     have hge := betN_ge (s := s) (j := k) (by omega)
     rw [hb'] at hge
     dsimp only at hge ht ⊢
     have hb := h.betN _ k f' (Nat.le_refl _) hk hb'
     by_cases hf : f' = s.size
     ·rw [if_pos hf]
      exact ⟨_, rfl⟩
     ·rw [if_neg hf]
      have e := (hb.1 (by omega)).symm.trans hbe
      injection e with e _
      subst e
      rw [if_neg (by omega)] at ht
      cases ho : oneN u f' l with
      | bad p e => rw [ho] at ht; cases ht
      | ok x =>
       rw [ho] at ht
       obtain ⟨x', hx'⟩ := h.one_back (by omega) ho
       have e := (h.one (by omega) hx').symm.trans ho
       injection e with e
       subst e
       rw [hx']
       have hx := oneN_ok hx' (by omega)
       match m, hm with
       | 0, hm => omega
       | m + 1, hm => exact h.toks_back m x'.b _ r (by omega) (by omega) ht
  ·exact ⟨_, toksN_end (by omega)⟩
end
end Go.Proofs.YtlogcealmiokkaaGreatDoor
namespace Go.Proofs.YtlogcealmiokkaaGreatDoor
open Go.RowKit
def O52 {α : Type} (c : Prop) (r : PR α) (x : α × Nat × List ByteArray) : Prop := r = .ok x ∨ (¬ c ∧ ∃ p, r = .error (p, 52))
theorem O52.bind {c : Prop} {α β : Type} {r : PR α} {a : α} {j : Nat} {ns : List ByteArray} {f : α → Nat → List ByteArray → PR β} {y : β × Nat × List ByteArray} (h : O52 c r (a, j, ns)) (h2 : O52 c (f a j ns) y) : O52 c (r.andThen f) y := by
 rcases h with rfl | ⟨h1, p, rfl⟩
 ·exact h2
 ·exact .inr ⟨h1, p, rfl⟩
theorem O52.pure {c : Prop} {α : Type} (x : α × Nat × List ByteArray) : O52 c (.ok x) x := .inl rfl
def MkB (x : Tk) (c : UInt8) : Prop := x.k = 5 ∧ x.t = ba [c]
structure Fol (tk tk' : List Tk) (sz sz' o e : Nat) : Prop where
 same : ∀ i, i < e → (nxT tk' sz' (o + i)).k = (nxT tk sz i).k ∧ (nxT tk' sz' (o + i)).t = (nxT tk sz i).t
 adj : ∀ i, i + 1 < e → ((nxT tk' sz' (o + i + 1)).a = (nxT tk' sz' (o + i)).b ↔ (nxT tk sz (i + 1)).a = (nxT tk sz i).b)
 st : (nxT tk sz e).k = 6
 st' : (nxT tk' sz' (o + e)).k = 6 ∨ MkB (nxT tk' sz' (o + e)) 41
 lt : e < tk.length
 lt' : o + e < tk'.length
theorem ok_and {α β : Type} {r : PR α} {f : α → Nat → List ByteArray → PR β} {y : β × Nat × List ByteArray} (h : r.andThen f = .ok y) : ∃ a j ns, r = .ok (a, j, ns) ∧ f a j ns = .ok y := by
 cases r with
 | error e => cases h
 | ok x => exact ⟨x.1, x.2.1, x.2.2, rfl, h⟩
section
variable {tk tk' : List Tk} {sz sz' o e : Nat}
theorem Fol.isM (h : Fol tk tk' sz sz' o e) {i : Nat} (hi : i < e) (m : ByteArray) : isM tk' sz' (o + i) m = Go.Proofs.YtlogcealmiokkaaGreatDoor.isM tk sz i m := by
 unfold Go.Proofs.YtlogcealmiokkaaGreatDoor.isM
 rw [(h.same i hi).1, (h.same i hi).2]
theorem Fol.isM_end (h : Fol tk tk' sz sz' o e) (m : ByteArray) : Go.Proofs.YtlogcealmiokkaaGreatDoor.isM tk sz e m = false := by
 unfold Go.Proofs.YtlogcealmiokkaaGreatDoor.isM
 rw [h.st]; rfl
theorem Fol.isM_end' (h : Fol tk tk' sz sz' o e) {m : ByteArray} (hm : (m.toList == [41]) = false) : Go.Proofs.YtlogcealmiokkaaGreatDoor.isM tk' sz' (o + e) m = false := by
 unfold Go.Proofs.YtlogcealmiokkaaGreatDoor.isM
 rcases h.st' with h1 | h1
 ·rw [h1]; rfl
 ·rw [h1.2, show (ba [41]).toList = [41] from by rw [ByteArray.toList_eq]; rfl, show ([41] == m.toList) = false from by rw [BEq.comm]; exact hm, Bool.and_false]
def TmF (o e : Nat) (c : Prop) (tm tm' : Int → Nat → List ByteArray → PR T) : Prop :=
 ∀ m i ns t j ns', i ≤ e → tm m i ns = .ok (t, j, ns') → i ≤ j ∧ j ≤ e ∧ O52 c (tm' m (o + i) ns) (t, o + j, ns')
theorem must_fol (h : Fol tk tk' sz sz' o e) {α : Type} {m : ByteArray} {a b : α} {i j : Nat} {ns ns' : List ByteArray} (hi : i ≤ e) (hr : mustN tk sz m a i ns = .ok (b, j, ns')) : j = i + 1 ∧ i < e ∧ b = a ∧ ns' = ns ∧ mustN tk' sz' m a (o + i) ns = .ok (a, o + j, ns) := by
 unfold mustN at hr
 split at hr
 ·rename_i hm
  injection hr with hr
  injection hr with h1 h2
  injection h2 with h2 h3
  subst h1 h2 h3
  have hie : i < e := by
   rcases Nat.lt_or_ge i e with h4 | h4
   ·exact h4
   ·obtain rfl : i = e := by omega
    rw [h.isM_end] at hm; cases hm
  refine ⟨rfl, hie, rfl, rfl, ?_⟩
  unfold mustN
  rw [if_pos (by rw [h.isM hie]; exact hm)]
  rfl
 ·cases hr
variable {c : Prop} {tm tm' : Int → Nat → List ByteArray → PR T}
theorem comma_ne : ((⟨#[44]⟩ : ByteArray).toList == [41]) = false := by rw [ByteArray.toList_eq]; rfl
theorem rowC_fol (h : Fol tk tk' sz sz' o e) (ht : TmF o e c tm tm') : ∀ (f f' : Nat) (l : List T) (j : Nat) (ns : List ByteArray) (l' : List T) (j' : Nat) (ns' : List ByteArray), j ≤ e → e ≤ j + f → e ≤ j + f' → rowC tk sz tm f l j ns = .ok (l', j', ns') → j ≤ j' ∧ j' ≤ e ∧ O52 c (rowC tk' sz' tm' f' l (o + j) ns) (l', o + j', ns') := by
 intro f
 induction f with
 | zero =>
  intro f' l j ns l' j' ns' hj hf hf' hr
  unfold rowC at hr
  injection hr with hr
  injection hr with h1 h2
  injection h2 with h2 h3
  subst h1 h2 h3
  obtain rfl : j = e := by omega
  refine ⟨Nat.le_refl _, Nat.le_refl _, ?_⟩
  cases f' with
  | zero => exact O52.pure _
  | succ f' =>
   unfold rowC
   rw [if_neg (by rw [h.isM_end' comma_ne]; simp)]
   exact O52.pure _
 | succ f ih =>
  intro f' l j ns l' j' ns' hj hf hf' hr
  unfold rowC at hr
  split at hr
  ·rename_i hm
   have hje : j < e := by
    rcases Nat.lt_or_ge j e with h4 | h4
    ·exact h4
    ·obtain rfl : j = e := by omega
     rw [h.isM_end] at hm; cases hm
   obtain ⟨t, j1, ns1, h1, h2⟩ := ok_and hr
   obtain ⟨g1, g2, g3⟩ := ht _ _ _ _ _ _ hje h1
   obtain ⟨f', rfl⟩ : ∃ k, f' = k + 1 := ⟨f' - 1, by omega⟩
   obtain ⟨k1, k2, k3⟩ := ih f' _ _ _ _ _ _ g2 (by omega) (by omega) h2
   refine ⟨by omega, k2, ?_⟩
   unfold rowC
   rw [if_pos (by rw [h.isM hje]; exact hm)]
   exact O52.bind g3 k3
  ·rename_i hm
   injection hr with hr
   injection hr with h1 h2
   injection h2 with h2 h3
   subst h1 h2 h3
   refine ⟨Nat.le_refl _, hj, ?_⟩
   cases f' with
   | zero => exact O52.pure _
   | succ f' =>
    unfold rowC
    rw [if_neg ?_]
    ·exact O52.pure _
    ·rcases Nat.lt_or_ge j e with h4 | h4
     ·rw [h.isM h4]; exact hm
     ·obtain rfl : j = e := by omega
      rw [h.isM_end' comma_ne]; simp
theorem rowP_fol (h : Fol tk tk' sz sz' o e) (ht : TmF o e c tm tm') {j : Nat} {ns : List ByteArray} {l' : List T} {j' : Nat} {ns' : List ByteArray} (hj : j ≤ e) (hr : rowP tk sz tm j ns = .ok (l', j', ns')) : j ≤ j' ∧ j' ≤ e ∧ O52 c (rowP tk' sz' tm' (o + j) ns) (l', o + j', ns') := by
 unfold rowP at hr
 obtain ⟨t, j1, ns1, h1, h2⟩ := ok_and hr
 obtain ⟨g1, g2, g3⟩ := ht _ _ _ _ _ _ hj h1
 have := h.lt
 have := h.lt'
 obtain ⟨k1, k2, k3⟩ := rowC_fol h ht _ tk'.length _ _ _ _ _ _ g2 (by omega) (by omega) h2
 exact ⟨by omega, k2, O52.bind g3 k3⟩
theorem ok_split {α : Type} {a b : α} {i j : Nat} {ns ns' : List ByteArray} (h : (Except.ok (a, i, ns) : PR α) = .ok (b, j, ns')) : b = a ∧ j = i ∧ ns' = ns := by
 injection h with h
 injection h with h1 h2
 injection h2 with h2 h3
 exact ⟨h1.symm, h2.symm, h3.symm⟩
theorem listP_fol (h : Fol tk tk' sz sz' o e) (ht : TmF o e c tm tm') {j : Nat} {ns : List ByteArray} {l' : T} {j' : Nat} {ns' : List ByteArray} (hj : j ≤ e) (hr : listP tk sz tm j ns = .ok (l', j', ns')) : j ≤ j' ∧ j' ≤ e ∧ O52 c (listP tk' sz' tm' (o + j) ns) (l', o + j', ns') := by
 have n93 : ((⟨#[93]⟩ : ByteArray).toList == [41]) = false := by rw [ByteArray.toList_eq]; rfl
 have n124 : ((⟨#[124]⟩ : ByteArray).toList == [41]) = false := by rw [ByteArray.toList_eq]; rfl
 unfold listP at hr ⊢
 have e1 : isM tk' sz' (o + j) ⟨#[93]⟩ = isM tk sz j ⟨#[93]⟩ := by
  rcases Nat.lt_or_ge j e with h4 | h4
  ·exact h.isM h4 _
  ·obtain rfl : j = e := by omega
   rw [h.isM_end' n93, h.isM_end]
 rw [e1]
 split at hr
 ·rename_i hm
  obtain ⟨rfl, rfl, rfl⟩ := ok_split hr
  rw [if_pos hm]
  have hje : j < e := by
   rcases Nat.lt_or_ge j e with h4 | h4
   ·exact h4
   ·obtain rfl : j = e := by omega
    rw [h.isM_end] at hm; cases hm
  exact ⟨by omega, hje, O52.pure _⟩
 ·rename_i hm
  rw [if_neg hm]
  obtain ⟨l, j1, ns1, h1, h2⟩ := ok_and hr
  obtain ⟨g1, g2, g3⟩ := rowP_fol h ht hj h1
  have e2 : isM tk' sz' (o + j1) ⟨#[124]⟩ = isM tk sz j1 ⟨#[124]⟩ := by
   rcases Nat.lt_or_ge j1 e with h4 | h4
   ·exact h.isM h4 _
   ·obtain rfl : j1 = e := by omega
    rw [h.isM_end' n124, h.isM_end]
  split at h2
  ·rename_i hm2
   have hje : j1 < e := by
    rcases Nat.lt_or_ge j1 e with h4 | h4
    ·exact h4
    ·obtain rfl : j1 = e := by omega
     rw [h.isM_end] at hm2; cases hm2
   obtain ⟨r, j2, ns2, h3, h4⟩ := ok_and h2
   obtain ⟨k1, k2, k3⟩ := ht _ _ _ _ _ _ hje h3
   obtain ⟨rfl, q2, rfl, rfl, q3⟩ := must_fol h k2 h4
   refine ⟨by omega, by omega, O52.bind g3 ?_⟩
   rw [e2, if_pos hm2]
   exact O52.bind k3 (.inl q3)
  ·rename_i hm2
   obtain ⟨rfl, q2, rfl, rfl, q3⟩ := must_fol h g2 h2
   refine ⟨by omega, by omega, O52.bind g3 ?_⟩
   rw [e2, if_neg hm2]
   exact .inl q3
theorem ends_fol (h : Fol tk tk' sz sz' o e) {i : Nat} (hi : i ≤ e) : endsP tk' sz' (o + i) = endsP tk sz i := by
 rcases Nat.lt_or_ge i e with h4 | h4
 ·unfold endsP
  dsimp only
  rw [(h.same i h4).1, (h.same i h4).2]
 ·obtain rfl : i = e := by omega
  unfold endsP
  dsimp only
  rw [h.st]
  rcases h.st' with h1 | h1
  ·rw [h1]; rfl
  ·rw [h1.1, h1.2, show (ba [41]).toList = [41] from by rw [ByteArray.toList_eq]; rfl]
   rfl
theorem Fol.kind (h : Fol tk tk' sz sz' o e) {i : Nat} (hi : i ≤ e) {k : Int} (h5 : k ≠ 5) (h6 : k ≠ 6) : (nxT tk' sz' (o + i)).k = k ↔ (nxT tk sz i).k = k := by
 rcases Nat.lt_or_ge i e with h4 | h4
 ·rw [(h.same i h4).1]
 ·obtain rfl : i = e := by omega
  rw [h.st]
  rcases h.st' with h1 | h1
  ·rw [h1]
  ·rw [h1.1]
   exact ⟨fun h => absurd h.symm h5, fun h => absurd h.symm h6⟩
theorem Fol.before (h : Fol tk tk' sz sz' o e) {i : Nat} (hi : i ≤ e) (hk : (nxT tk sz i).k ≠ 6) : i < e := by
 rcases Nat.lt_or_ge i e with h4 | h4
 ·exact h4
 ·obtain rfl : i = e := by omega
  exact absurd h.st hk
theorem intP_fol {x x' : Tk} (hx : x'.t = x.t) {b : Bool} {i j : Nat} {ns ns' : List ByteArray} {t : T} (hr : intP x b i ns = .ok (t, j, ns')) : j = i ∧ ns' = ns ∧ ∀ k ns, intP x' b k ns = .ok (t, k, ns) := by
 unfold intP at hr ⊢
 cases hn : intN x.t b with
 | none => rw [hn] at hr; cases hr
 | some n =>
  rw [hn] at hr
  obtain ⟨rfl, rfl, rfl⟩ := ok_split hr
  refine ⟨rfl, rfl, fun k ns => ?_⟩
  rw [hx, hn]
theorem namedP_fol (h : Fol tk tk' sz sz' o e) (ht : TmF o e c tm tm') {most : Int} {i : Nat} {ns : List ByteArray} {x : T × Int} {j' : Nat} {ns' : List ByteArray} (hi : i < e) (hr : namedP tk sz tm (nxT tk sz i) most (i + 1) ns = .ok (x, j', ns')) :
 i < j' ∧ j' ≤ e ∧ O52 c (namedP tk' sz' tm' (nxT tk' sz' (o + i)) most (o + (i + 1)) ns) (x, o + j', ns') := by
 unfold namedP at hr ⊢
 dsimp only at hr ⊢
 obtain ⟨s1, s2⟩ := h.same i hi
 rw [s2]
 have hk4 := h.kind (i := i + 1) hi (k := 4) (by decide) (by decide)
 have hk3 := h.kind (i := i + 1) hi (k := 3) (by decide) (by decide)
 split at hr
 ·rename_i h4
  rw [if_pos (hk4.2 h4)]
  have hb := h.before hi (by rw [h4]; decide)
  obtain ⟨l, j1, ns1, h1, h2⟩ := ok_and hr
  obtain ⟨g1, g2, g3⟩ := rowP_fol h ht (by omega) h1
  obtain ⟨rfl, q2, rfl, rfl, q3⟩ := must_fol h g2 h2
  exact ⟨by omega, by omega, O52.bind g3 (.inl q3)⟩
 ·rename_i h4
  rw [if_neg (fun h => h4 (hk4.1 h))]
  split at hr
  ·rename_i h3
   have hb := h.before hi (by rw [h3.2.1]; decide)
   have had := h.adj i hb
   rw [if_pos ⟨h3.1, hk3.2 h3.2.1, had.2 h3.2.2⟩]
   obtain ⟨r, j1, ns1, h1, h2⟩ := ok_and hr
   obtain ⟨rfl, rfl, hint⟩ := intP_fol (h.same (i + 1) hb).2 h1
   obtain ⟨rfl, rfl, rfl⟩ := ok_split h2
   refine ⟨by omega, by omega, ?_⟩
   show O52 c ((intP (nxT tk' sz' (o + (i + 1))) true (o + (i + 1) + 1) ns').andThen _) _
   rw [hint]
   exact O52.pure _
  ·rename_i h3
   rw [if_neg ?_]
   ·cases hp : opPre (nxT tk sz i).t with
    | none =>
     rw [hp] at hr
     obtain ⟨rfl, rfl, rfl⟩ := ok_split hr
     exact ⟨by omega, hi, O52.pure _⟩
    | some q =>
     obtain ⟨p, m⟩ := q
     rw [hp] at hr
     dsimp only at hr ⊢
     rw [ends_fol h hi]
     split at hr
     ·rename_i hc
      rw [if_pos hc]
      obtain ⟨r, j1, ns1, h1, h2⟩ := ok_and hr
      obtain ⟨g1, g2, g3⟩ := ht _ _ _ _ _ _ hi h1
      obtain ⟨rfl, rfl, rfl⟩ := ok_split h2
      exact ⟨by omega, by omega, O52.bind g3 (O52.pure _)⟩
     ·rename_i hc
      rw [if_neg hc]
      obtain ⟨rfl, rfl, rfl⟩ := ok_split hr
      exact ⟨by omega, hi, O52.pure _⟩
   ·rintro ⟨e1, e2, e3⟩
    have e2' := hk3.1 e2
    have hb := h.before hi (by rw [e2']; decide)
    exact h3 ⟨e1, e2', (h.adj i hb).1 e3⟩
theorem operandP_fol (h : Fol tk tk' sz sz' o e) (ht : TmF o e c tm tm') {most : Int} {i : Nat} {ns : List ByteArray} {x : T × Int} {j' : Nat} {ns' : List ByteArray} (hi : i ≤ e) (hr : operandP tk sz tm most i ns = .ok (x, j', ns')) :
 i < j' ∧ j' ≤ e ∧ O52 c (operandP tk' sz' tm' most (o + i) ns) (x, o + j', ns') := by
 have n40 : ((⟨#[40]⟩ : ByteArray).toList == [41]) = false := by rw [ByteArray.toList_eq]; rfl
 by_cases hie : i < e
 ·obtain ⟨s1, s2⟩ := h.same i hie
  unfold operandP at hr ⊢
  dsimp only at hr ⊢
  rw [s1, s2, h.isM hie, h.isM hie, h.isM hie]
  split at hr
  ·rename_i h3
   rw [if_pos h3]
   obtain ⟨r, j1, ns1, h1, h2⟩ := ok_and hr
   obtain ⟨rfl, rfl, hint⟩ := intP_fol s2 h1
   obtain ⟨rfl, rfl, rfl⟩ := ok_split h2
   rw [hint]
   exact ⟨by omega, by omega, O52.pure _⟩
  ·rename_i h3
   rw [if_neg h3]
   split at hr
   ·rename_i h2
    rw [if_pos h2]
    obtain ⟨rfl, rfl, rfl⟩ := ok_split hr
    exact ⟨by omega, by omega, O52.pure _⟩
   ·rename_i h2
    rw [if_neg h2]
    split at hr
    ·rename_i h4
     rw [if_pos h4]
     obtain ⟨r, j1, ns1, h1, h5⟩ := ok_and hr
     obtain ⟨g1, g2, g3⟩ := ht _ _ _ _ _ _ hie h1
     obtain ⟨rfl, q2, rfl, rfl, q3⟩ := must_fol h g2 h5
     exact ⟨by omega, by omega, O52.bind g3 (.inl q3)⟩
    ·rename_i h4
     rw [if_neg h4]
     split at hr
     ·rename_i h5
      rw [if_pos h5]
      obtain ⟨r, j1, ns1, h1, h6⟩ := ok_and hr
      obtain ⟨g1, g2, g3⟩ := listP_fol h ht hie h1
      obtain ⟨rfl, rfl, rfl⟩ := ok_split h6
      exact ⟨by omega, by omega, O52.bind g3 (O52.pure _)⟩
     ·rename_i h5
      rw [if_neg h5]
      split at hr
      ·rename_i h6
       rw [if_pos h6]
       have n125 : ((⟨#[125]⟩ : ByteArray).toList == [41]) = false := by rw [ByteArray.toList_eq]; rfl
       have e1 : isM tk' sz' (o + i + 1) ⟨#[125]⟩ = isM tk sz (i + 1) ⟨#[125]⟩ := by
        rcases Nat.lt_or_ge (i + 1) e with h7 | h7
        ·exact h.isM h7 _
        ·have e2 : i + 1 = e := by omega
         rw [e2, show o + i + 1 = o + e by omega, h.isM_end' n125, h.isM_end]
       rw [e1]
       split at hr
       ·rename_i h7
        rw [if_pos h7]
        have hb : i + 1 < e := by
         rcases Nat.lt_or_ge (i + 1) e with h8 | h8
         ·exact h8
         ·have e2 : i + 1 = e := by omega
          rw [e2, h.isM_end] at h7; cases h7
        obtain ⟨rfl, rfl, rfl⟩ := ok_split hr
        exact ⟨by omega, by omega, O52.pure _⟩
       ·rename_i h7
        rw [if_neg h7]
        obtain ⟨r, j1, ns1, h1, h8⟩ := ok_and hr
        obtain ⟨g1, g2, g3⟩ := ht _ _ _ _ _ _ hie h1
        obtain ⟨rfl, q2, rfl, rfl, q3⟩ := must_fol h g2 h8
        exact ⟨by omega, by omega, O52.bind g3 (.inl q3)⟩
      ·rename_i h6
       rw [if_neg h6]
       split at hr
       ·rename_i h7
        rw [if_pos h7]
        exact namedP_fol h ht hie hr
       ·cases hr
 ·exfalso
  obtain rfl : i = e := by omega
  unfold operandP at hr
  dsimp only at hr
  rw [h.isM_end, h.isM_end, h.isM_end, h.st] at hr
  simp at hr
theorem infixC_fol (h : Fol tk tk' sz sz' o e) (ht : TmF o e c tm tm') (most : Int) : ∀ (f f' : Nat) (t : T) (pr : Int) (j : Nat) (ns : List ByteArray) (t' : T) (j' : Nat) (ns' : List ByteArray), j ≤ e → e ≤ j + f → e ≤ j + f' →
 infixC tk sz tm most f t pr j ns = .ok (t', j', ns') → j ≤ j' ∧ j' ≤ e ∧ O52 c (infixC tk' sz' tm' most f' t pr (o + j) ns) (t', o + j', ns') := by
 have stop : ∀ f' t pr ns, O52 c (infixC tk' sz' tm' most f' t pr (o + e) ns) (t, o + e, ns) := by
  intro f' t pr ns
  cases f' with
  | zero => exact O52.pure _
  | succ f' =>
   unfold infixC
   dsimp only
   rw [if_pos ⟨h.st'.elim (fun h1 => by rw [h1]; decide) (fun h1 => by rw [h1.1]; decide), h.isM_end' comma_ne⟩]
   exact O52.pure _
 intro f
 induction f with
 | zero =>
  intro f' t pr j ns t' j' ns' hj hf hf' hr
  unfold infixC at hr
  obtain ⟨rfl, rfl, rfl⟩ := ok_split hr
  obtain rfl : j' = e := by omega
  exact ⟨Nat.le_refl _, Nat.le_refl _, stop _ _ _ _⟩
 | succ f ih =>
  intro f' t pr j ns t' j' ns' hj hf hf' hr
  by_cases hje : j < e
  ·obtain ⟨f', rfl⟩ : ∃ k, f' = k + 1 := ⟨f' - 1, by omega⟩
   obtain ⟨s1, s2⟩ := h.same j hje
   unfold infixC at hr ⊢
   dsimp only at hr ⊢
   rw [s1, s2, h.isM hje]
   split at hr
   ·rename_i h1
    rw [if_pos h1]
    obtain ⟨rfl, rfl, rfl⟩ := ok_split hr
    exact ⟨Nat.le_refl _, hj, O52.pure _⟩
   ·rename_i h1
    rw [if_neg h1]
    cases ho : opIn (nxT tk sz j).t with
    | none =>
     rw [ho] at hr
     obtain ⟨rfl, rfl, rfl⟩ := ok_split hr
     exact ⟨Nat.le_refl _, hj, O52.pure _⟩
    | some q =>
     obtain ⟨p, l, r⟩ := q
     rw [ho] at hr
     dsimp only at hr ⊢
     split at hr
     ·rename_i h2
      rw [if_pos h2]
      obtain ⟨rfl, rfl, rfl⟩ := ok_split hr
      exact ⟨Nat.le_refl _, hj, O52.pure _⟩
     ·rename_i h2
      rw [if_neg h2]
      obtain ⟨t2, j1, ns1, h3, h4⟩ := ok_and hr
      obtain ⟨g1, g2, g3⟩ := ht _ _ _ _ _ _ hje h3
      obtain ⟨k1, k2, k3⟩ := ih f' _ _ _ _ _ _ _ g2 (by omega) (by omega) h4
      exact ⟨by omega, k2, O52.bind g3 k3⟩
  ·obtain rfl : j = e := by omega
   unfold infixC at hr
   dsimp only at hr
   rw [if_pos ⟨by rw [h.st]; decide, h.isM_end _⟩] at hr
   obtain ⟨rfl, rfl, rfl⟩ := ok_split hr
   exact ⟨Nat.le_refl _, Nat.le_refl _, stop _ _ _ _⟩
end
theorem termP_fol {tk tk' : List Tk} {sz sz' o e : Nat} (h : Fol tk tk' sz sz' o e) : ∀ (d d' : Nat), TmF o e (d ≤ d') (termP tk sz d) (termP tk' sz' d') := by
 intro d
 induction d with
 | zero =>
  intro d' m i ns t j ns' hi hr
  unfold termP at hr
  cases hr
 | succ d ih =>
  intro d' m i ns t j ns' hi hr
  rw [termP] at hr
  obtain ⟨x, j1, ns1, h1, h2⟩ := ok_and hr
  cases d' with
  | zero =>
   obtain ⟨g1, g2, _⟩ := operandP_fol h (ih 0) hi h1
   have := h.lt
   obtain ⟨k1, k2, _⟩ := infixC_fol h (ih 0) m _ tk.length _ _ _ _ _ _ _ g2 (by omega) (by omega) h2
   exact ⟨by omega, k2, .inr ⟨by omega, _, rfl⟩⟩
  | succ d' =>
   obtain ⟨g1, g2, g3⟩ := operandP_fol h (ih d') hi h1
   have := h.lt
   have := h.lt'
   obtain ⟨k1, k2, k3⟩ := infixC_fol h (ih d') m _ tk'.length _ _ _ _ _ _ _ g2 (by omega) (by omega) h2
   refine ⟨by omega, k2, ?_⟩
   have hc : (d + 1 ≤ d' + 1) = (d ≤ d') := by simp
   rw [hc, termP]
   exact O52.bind g3 k3
end Go.Proofs.YtlogcealmiokkaaGreatDoor
namespace Go.Proofs.YtlogcealmiokkaaGreatDoor
open Go.RowKit
theorem nl_of {S u : ByteArray} {tl : List UInt8} (hu : u.data.toList = S.data.toList ++ 10 :: tl) (htl : ∀ c ∈ tl, c ≠ 42) : Nl S u := by
 have hsz : u.size = S.size + 1 + tl.length := by rw [← len_u u, hu, List.length_append, len_u]; simp; omega
 have hd : u.data.toList.drop S.size = 10 :: tl := by rw [hu, ← len_u S]; simp
 have e1 : ∀ i, i < S.size → bu u i = bu S i := fun i hi => by
  unfold bu
  rw [hu, List.getD_eq_getElem?_getD, List.getElem?_append_left (by rw [len_u]; exact hi), ← List.getD_eq_getElem?_getD]
 have e2 : (bn u S.size : Int) = 10 := bn_here hd
 refine ⟨⟨⟨by omega, e1, by rw [e2]; rfl⟩, by rw [lineN_stop (by rw [e2]; rfl)]⟩, e2, fun i hi e => ?_⟩
 have h1 : bu u i = (10 :: tl).getD (i - S.size) 0 := by
  have := bu_drop hd (i - S.size)
  rwa [show S.size + (i - S.size) = i by omega] at this
 have h2 : (10 :: tl).getD (i - S.size) 0 ≠ 42 := by
  rw [List.getD_eq_getElem?_getD]
  cases h3 : (10 :: tl)[i - S.size]? with
  | none => decide
  | some c =>
   rcases List.mem_cons.1 (List.mem_of_getElem? h3) with rfl | h4
   ·decide
   ·exact htl c h4
 rw [bn_bu, h1] at e
 exact h2 (UInt8.toNat_inj.1 (by have : ((10 :: tl).getD (i - S.size) 0).toNat = 42 := by omega
                                 rw [this]; rfl))
theorem LexTo.okk {u : ByteArray} {p p' : Nat} {l l' r : List Tk} (h : LexTo u p l p' l') (h2 : toksN u p l = .ok r) : toksN u p' l' = .ok r ∧ l'.length ≤ 1000 := by
 rcases h with ⟨h, h3⟩ | ⟨_, q, h⟩
 ·exact ⟨h ▸ h2, h3⟩
 ·rw [h2] at h; cases h
theorem lex_head {S u : ByteArray} {tl : List UInt8} {r : List Tk} (hu : u.data.toList = S.data.toList ++ 10 :: tl) (htl : ∀ c ∈ tl, c ≠ 42) (hl : lexN u = .ok r) : ∃ a, lexN S = .ok a ∧ toksN u (S.size + 1) a = .ok r ∧ u.data.toList.drop (S.size + 1) = tl := by
 have hN := nl_of hu htl
 obtain ⟨h1, h2⟩ := lex_toks hl
 have hlt := hN.lt
 obtain ⟨a, ha⟩ := hN.toks_back _ 0 [] r (Nat.le_refl _) (Nat.zero_le _) h1
 refine ⟨a, toks_lex ha (by omega), ?_, ?_⟩
 ·rw [hN.toks _ 0 [] a (Nat.le_refl _) (Nat.zero_le _) ha, bet_toks hN.lt (by omega) (by rw [betN_eq hN.lt, if_pos hN.blk] : betN u S.size = betN u (S.size + 1))] at h1
  exact h1
 ·exact drop_more (A := [10]) (by rw [hu, ← len_u S]; simp)
theorem readC_more {tk : List Tk} {sz : Nat} : ∀ (f i : Nat) (l r : Sens), readC tk sz f i l = .ok r → l.length ≤ r.length ∧ (i < tk.length → 0 < f → l.length < r.length)
 | 0, i, l, r, h => by injection h with h; subst h; exact ⟨Nat.le_refl _, fun _ h => absurd h (by omega)⟩
 | f + 1, i, l, r, h => by
  by_cases hlt : i < tk.length
  ·cases ht : termP tk sz 65 1200 i [] with
   | error e => obtain ⟨p, k⟩ := e; rw [readC_err hlt ht] at h; cases h
   | ok y =>
    obtain ⟨t, j, ns⟩ := y
    by_cases hk : (nxT tk sz j).k = 6
    ·rw [readC_go hlt ht hk] at h
     have := (readC_more f (j + 1) _ r h).1
     rw [List.length_append, List.length_singleton] at this
     exact ⟨by omega, fun _ _ => by omega⟩
    ·rw [readC_no hlt ht hk] at h; cases h
  ·rw [readC_end hlt] at h
   injection h with h
   subst h
   exact ⟨Nat.le_refl _, fun h => absurd h hlt⟩
theorem read_one {y : ByteArray} {tk : List Tk} {x : T × List ByteArray} (hl : lexN y = .ok tk) (hr : readN y = .ok [x]) : ∃ e, e + 1 = tk.length ∧ termP tk y.size 65 1200 0 [] = .ok (x.1, e, x.2) ∧ (nxT tk y.size e).k = 6 := by
 rw [readN_ok hl] at hr
 cases hn : tk.length with
 | zero => rw [hn] at hr; injection hr with hr; cases hr
 | succ n =>
  rw [hn] at hr
  have hlt : 0 < tk.length := by omega
  cases ht : termP tk y.size 65 1200 0 [] with
  | error e => obtain ⟨p, k⟩ := e; rw [readC_err hlt ht] at hr; cases hr
  | ok z =>
   obtain ⟨t, j, ns⟩ := z
   by_cases hk : (nxT tk y.size j).k = 6
   ·rw [readC_go hlt ht hk] at hr
    have hj : j < tk.length := by
     rcases Nat.lt_or_ge j tk.length with h1 | h1
     ·exact h1
     ·rw [nxT, dif_neg (by omega)] at hk
      exact absurd hk (by simp)
    have hm := (readC_more n (j + 1) _ _ hr).2
    have hjn : ¬ j + 1 < tk.length := fun h => by
     have := hm h (by omega)
     simp at this
    rw [readC_end hjn] at hr
    injection hr with hr
    injection hr with hr
    subst hr
    exact ⟨j, by omega, rfl, hk⟩
   ·rw [readC_no hlt ht hk] at hr; cases hr
theorem one_toks {S X : ByteArray} {tl : List UInt8} {x : T × List ByteArray} (hX : X.data.toList = S.data.toList ++ 10 :: tl) (htl : tl = [41] ∨ tl = [41, 41]) (hs : sentN X = .ok x) :
 ∃ (a cs : List Tk) (e : Tk) (y : ByteArray) (j : Nat), lexN S = .ok a ∧ cs.length = tl.length ∧ (∀ c ∈ cs, Mk c 41 ∧ S.size < c.a) ∧ e.k = 6 ∧ j + 1 = (a ++ cs ++ [e]).length ∧ termP (a ++ cs ++ [e]) y.size 65 1200 0 [] = .ok (x.1, j, x.2) := by
 unfold sentN at hs
 cases hl : lexN X with
 | bad p e => rw [hl] at hs; cases hs
 | ok r =>
  rw [hl] at hs
  dsimp only at hs
  have h42 : ∀ c ∈ tl, c ≠ 42 := by rcases htl with rfl | rfl <;> decide
  have marks : ∀ {u : ByteArray} {R : List UInt8} {a r : List Tk}, a.length ≤ 1000 → u.data.toList.drop (S.size + 1) = tl ++ R → toksN u (S.size + 1) a = .ok r → ∃ cs : List Tk, cs.length = tl.length ∧ (∀ c ∈ cs, Mk c 41 ∧ S.size < c.a) ∧ toksN u (S.size + 1 + tl.length) (a ++ cs) = .ok r ∧ (a ++ cs).length ≤ 1000 := fun {u R a r} ha hd ht => by
   rcases htl with rfl | rfl
   ·obtain ⟨c, hc, hca, _, hL⟩ := tok_mark (l := a) (R := R) hd (by decide) (by decide) ha
    obtain ⟨h1, h2⟩ := hL.okk ht
    exact ⟨[c], rfl, fun d hd => by simp at hd; subst hd; exact ⟨hc, by omega⟩, h1, h2⟩
   ·obtain ⟨c, hc, hca, _, hL⟩ := tok_mark (l := a) (R := 41 :: R) hd (by decide) (by decide) ha
    obtain ⟨h1, h2⟩ := hL.okk ht
    obtain ⟨c', hc', hca', _, hL'⟩ := tok_mark (l := a ++ [c]) (R := R) (drop_more (A := [41]) hd) (by decide) (by decide) h2
    obtain ⟨h3, h4⟩ := hL'.okk h1
    exact ⟨[c, c'], rfl, fun d hd => by
     simp at hd
     rcases hd with rfl | rfl
     ·exact ⟨hc, by omega⟩
     ·exact ⟨hc', by simp at hca'; omega⟩, by simpa using h3, by simpa using h4⟩
  obtain ⟨a, ha, ht, hd⟩ := lex_head hX h42 hl
  obtain ⟨cs, hcl, hcm, h1, _⟩ := marks (R := []) (lexN_ok ha).1 (by simpa using hd) ht
  have hXs : X.size = S.size + 1 + tl.length := by rw [← len_u X, hX, List.length_append, len_u]; simp; omega
  rw [toksN_end (by omega)] at h1
  injection h1 with h1
  have hend : endedN r X = X ++ ⟨#[32, 46]⟩ := by
   unfold endedN
   rw [← h1]
   cases hg : (a ++ cs).getLast? with
   | none => rfl
   | some z =>
    have hz : z ∈ cs := by
     have hne : cs ≠ [] := fun h => by rw [h] at hcl; rcases htl with rfl | rfl <;> simp at hcl
     rw [List.getLast?_append, List.getLast?_eq_some_getLast hne] at hg
     simp at hg
     subst hg
     exact List.getLast_mem hne
    dsimp only
    rw [if_neg (by rw [(hcm z hz).1.1]; decide)]
  rw [hend] at hs
  obtain ⟨y, hy⟩ : ∃ y, X ++ ⟨#[32, 46]⟩ = y := ⟨_, rfl⟩
  rw [hy] at hs
  have hr1 : readN y = .ok [x] := by
   split at hs
   ·cases hs
   ·rename_i z hz
    injection hs with hs
    subst hs
    exact hz
   ·cases hs
  have hyd : y.data.toList = S.data.toList ++ 10 :: (tl ++ [32, 46]) := by rw [← hy]; simp [hX]
  cases hly : lexN y with
  | bad p e => rw [readN_bad hly] at hr1; cases hr1
  | ok r2 =>
   obtain ⟨a', ha', ht', hd'⟩ := lex_head hyd (fun c hc => by
    rcases List.mem_append.1 hc with h | h
    ·exact h42 c h
    ·simp at h; rcases h with rfl | rfl <;> decide) hly
   rw [ha] at ha'
   injection ha' with ha'
   subst ha'
   obtain ⟨cs2, hcl2, hcm2, h2, h3⟩ := marks (R := [32, 46]) (lexN_ok ha).1 hd' ht'
   have hdd : y.data.toList.drop (S.size + 1 + tl.length) = [32, 46] := drop_more hd'
   rcases toks_end hdd h3 with ⟨h4, _⟩ | ⟨_, q, h4⟩
   ·rw [h2] at h4
    injection h4 with h4
    subst h4
    obtain ⟨j, hj, hterm, _⟩ := read_one hly hr1
    exact ⟨a, cs2, _, y, j, ha, hcl2, hcm2, rfl, hj, hterm⟩
   ·rw [h2] at h4; cases h4
end Go.Proofs.YtlogcealmiokkaaGreatDoor
namespace Go.Proofs.YtlogcealmiokkaaGreatDoor
open Go.RowKit
theorem lex_open {S S2 : ByteArray} {a a2 : List Tk} (h2 : S2.data.toList = 40 :: S.data.toList) (la : lexN S = .ok a) (l2 : lexN S2 = .ok a2) :
 ∃ (t0 : Tk) (x : List Tk), a2 = t0 :: x ∧ Mk t0 40 ∧ a = x.map (Tk.sh 0 1) ∧ ∀ y ∈ x, 1 ≤ y.a ∧ 1 ≤ y.b := by
 obtain ⟨t1, _⟩ := lex_toks la
 obtain ⟨t2, _⟩ := lex_toks l2
 have hsz : S2.size = 1 + S.size := by rw [← len_u S2, h2, List.length_cons, len_u]; omega
 have hd : S2.data.toList.drop 0 = [40] ++ S.data.toList := by rw [h2]; rfl
 have hb : (bn S2 0 : Int) = 40 := bn_here (L := S.data.toList) hd
 have hL := toks_word (u := S2) (p := 0) (W := [40]) (R := S.data.toList) (K := 5) (l := []) hd (by simp) (by rw [hb]; decide) (by rw [hb]; decide) (two_first (by rw [hb]; decide)) (by rw [hb]; decide) (by
  unfold headN
  rw [hb]
  have hs : signB 40 = false := by decide
  simp [smallB, greatB, digitB, hs, markB, opens]) (by decide)
 obtain ⟨h3, _⟩ := hL.okk t2
 have hA : Alike S S2 0 1 S.size := ⟨by omega, by omega, fun i => by
  have := bu_drop (u := S2) (p := 1) (L := S.data.toList) (by rw [h2]; rfl) i
  rw [this, Nat.zero_add]
  rfl⟩
 obtain ⟨x, hx, hge, h5⟩ := hA.toks _ 0 [] ([] ++ [⟨5, ba [40], 0, 0 + [40].length⟩]) a2 (Nat.le_refl _) (Nat.zero_le _) (fun f _ => by simp [opens]) h3
 have hlen := (lexN_ok l2).1
 rw [hx] at hlen
 simp only [List.nil_append, List.length_append, List.length_cons, List.length_nil] at hlen
 have h6 := h5 (by simp only [List.length_nil]; omega)
 rw [List.nil_append] at h6
 have h7 : toksN S 0 [] = .ok (x.map (Tk.sh 0 1)) := h6
 rw [t1] at h7
 injection h7 with h7
 exact ⟨_, x, by simpa using hx, ⟨rfl, rfl⟩, h7, hge⟩
theorem nx_get {tk : List Tk} {sz i : Nat} {z : Tk} (h : tk[i]? = some z) : nxT tk sz i = z := by
 obtain ⟨hi, e⟩ := List.getElem?_eq_some_iff.1 h
 rw [nxT, dif_pos hi, e]
theorem br_twice {s : ByteArray} {x1 x2 : T × List ByteArray} (h1 : sentN (ba (40 :: (s.data.toList ++ [10, 41]))) = .ok x1) (h2 : sentN (ba (40 :: 40 :: (s.data.toList ++ [10, 41, 41]))) = .ok x2) : x2.1 = x1.1 := by
 obtain ⟨S1, hS1⟩ : ∃ S, S = ba (40 :: s.data.toList) := ⟨_, rfl⟩
 obtain ⟨S2, hS2⟩ : ∃ S, S = ba (40 :: 40 :: s.data.toList) := ⟨_, rfl⟩
 have d1 : S1.data.toList = 40 :: s.data.toList := by rw [hS1, ba_data]
 have d2 : S2.data.toList = 40 :: S1.data.toList := by rw [hS2, ba_data, d1]
 obtain ⟨a, cs, e, y, j, la, hcl, hcm, he, hj, ht⟩ := one_toks (S := S1) (tl := [41]) (by rw [ba_data, d1]; simp) (.inl rfl) h1
 obtain ⟨a2, cs2, e2, y2, j2, l2, hcl2, hcm2, he2, hj2, ht2⟩ := one_toks (S := S2) (tl := [41, 41]) (by rw [ba_data, d2, d1]; simp) (.inr rfl) h2
 obtain ⟨t0, x, rfl, ht0, rfl, hge⟩ := lex_open d2 la l2
 obtain ⟨c, rfl⟩ : ∃ c, cs = [c] := List.length_eq_one_iff.1 hcl
 obtain ⟨c1, c2, rfl⟩ : ∃ c1 c2, cs2 = [c1, c2] := by
  match cs2, hcl2 with
  | [c1, c2], _ => exact ⟨c1, c2, rfl⟩
 obtain ⟨hc, hca⟩ := hcm c (by simp)
 obtain ⟨hc1, hca1⟩ := hcm2 c1 (by simp)
 obtain ⟨hc2, _⟩ := hcm2 c2 (by simp)
 obtain ⟨T1, hT1⟩ : ∃ T1, x.map (Tk.sh 0 1) ++ [c] ++ [e] = T1 := ⟨_, rfl⟩
 obtain ⟨T2, hT2⟩ : ∃ T2, t0 :: x ++ [c1, c2] ++ [e2] = T2 := ⟨_, rfl⟩
 rw [hT1] at hj ht
 rw [hT2] at hj2 ht2
 have n1 : T1.length = x.length + 2 := by rw [← hT1]; simp
 have n2 : T2.length = x.length + 4 := by rw [← hT2]; simp
 have hj' : j = x.length + 1 := by omega
 subst hj'
 have okx : ∀ z ∈ t0 :: x, z.b ≤ S2.size := fun z hz => ((lexN_ok l2).2.2 z hz).2.2.2.2
 have oka : ∀ z ∈ x.map (Tk.sh 0 1), z.b ≤ S1.size := fun z hz => ((lexN_ok la).2.2 z hz).2.2.2.2
 have gx : ∀ i, i < x.length → x[i]? = some (x.getD i e) := fun i hi => by rw [List.getD_eq_getElem?_getD, List.getElem?_eq_getElem hi]; rfl
 have at1 : ∀ i, i < x.length → nxT T1 y.size i = (x.getD i e).sh 0 1 ∧ x.getD i e ∈ x := fun i hi => by
  refine ⟨nx_get ?_, List.mem_of_getElem? (gx i hi)⟩
  rw [← hT1, List.append_assoc, List.getElem?_append_left (by simpa using hi), List.getElem?_map, gx i hi]
  rfl
 have at1c : nxT T1 y.size x.length = c := nx_get (by
  rw [← hT1, List.append_assoc, List.getElem?_append_right (by simp)]
  simp)
 have at1e : nxT T1 y.size (x.length + 1) = e := nx_get (by
  rw [← hT1, List.append_assoc, List.getElem?_append_right (by simp)]
  simp)
 have at2 : ∀ i, i < x.length → nxT T2 y2.size (1 + i) = x.getD i e := fun i hi => nx_get (by
  rw [← hT2, List.append_assoc, List.getElem?_append_left (by simp only [List.length_cons]; omega), Nat.add_comm 1 i, List.getElem?_cons_succ, gx i hi])
 have at20 : nxT T2 y2.size 0 = t0 := nx_get (by rw [← hT2]; rfl)
 have at2k : ∀ k z, [c1, c2, e2][k]? = some z → nxT T2 y2.size (x.length + 1 + k) = z := fun k z hz => nx_get (by
  rw [← hT2, List.append_assoc, List.getElem?_append_right (by simp only [List.length_cons]; omega)]
  simpa using hz)
 have hF : Fol T1 T2 y.size y2.size 1 (x.length + 1) := by
  refine ⟨fun i hi => ?_, fun i hi => ?_, by rw [at1e]; exact he, .inr ?_, by omega, by omega⟩
  ·rcases Nat.lt_or_ge i x.length with h | h
   ·rw [(at1 i h).1, at2 i h]
    exact ⟨rfl, rfl⟩
   ·obtain rfl : i = x.length := by omega
    rw [at1c, Nat.add_comm 1, at2k 0 c1 rfl, hc.1, hc.2, hc1.1, hc1.2]
    exact ⟨rfl, rfl⟩
  ·rcases Nat.lt_or_ge (i + 1) x.length with h | h
   ·obtain ⟨k1, m1⟩ := at1 i (by omega)
    obtain ⟨k2, m2⟩ := at1 (i + 1) h
    rw [k1, k2, Nat.add_assoc 1 i 1, at2 i (by omega), at2 (i + 1) h]
    have g1 := hge _ m1
    have g2 := hge _ m2
    simp only [Tk.sh]
    omega
   ·have hxi : i + 1 = x.length := by omega
    obtain ⟨k1, m1⟩ := at1 i (by omega)
    rw [hxi, at1c, k1, at2 i (by omega), show 1 + i + 1 = x.length + 1 + 0 by omega, at2k 0 c1 rfl]
    have b1 := oka _ (List.mem_map_of_mem m1)
    have b2 := okx _ (List.mem_cons_of_mem _ m1)
    constructor <;> intro h9 <;> omega
  ·rw [show 1 + (x.length + 1) = x.length + 1 + 1 by omega, at2k 1 c2 rfl]
   exact hc2
 obtain ⟨_, _, h3⟩ := termP_fol hF 65 64 1200 0 [] _ _ _ (Nat.zero_le _) ht
 have e65 : termP T2 y2.size 65 1200 0 [] = (operandP T2 y2.size (termP T2 y2.size 64) 1200 0 []).andThen fun z j ns' => infixC T2 y2.size (termP T2 y2.size 64) 1200 T2.length z.1 z.2 j ns' := rfl
 have hM : isM T2 y2.size 0 ⟨#[40]⟩ = true := by
  unfold isM
  rw [at20, ht0.1, ht0.2]
  exact (show ((5 : Int) == 5 && (ba [40]).toList == (ba [40]).toList) = true by rw [Bool.and_eq_true]; exact ⟨rfl, beq_self_eq_true _⟩)
 have eop : operandP T2 y2.size (termP T2 y2.size 64) 1200 0 [] = (termP T2 y2.size 64 1200 1 []).andThen fun r j ns1 => mustN T2 y2.size ⟨#[41]⟩ (r, 0) j ns1 := by
  unfold operandP
  dsimp only
  rw [at20, if_neg (by rw [ht0.1]; decide), if_neg (by rw [ht0.1]; decide), if_pos (.inr hM)]
 rw [e65, eop] at ht2
 rcases h3 with h3 | ⟨_, p, h3⟩
 ·rw [show (1 : Nat) + 0 = 1 from rfl] at h3
  rw [h3] at ht2
  have hM2 : isM T2 y2.size (1 + (x.length + 1)) ⟨#[41]⟩ = true := by
   unfold isM
   rw [show 1 + (x.length + 1) = x.length + 1 + 1 by omega, at2k 1 c2 rfl, hc2.1, hc2.2]
   exact (show ((5 : Int) == 5 && (ba [41]).toList == (ba [41]).toList) = true by rw [Bool.and_eq_true]; exact ⟨rfl, beq_self_eq_true _⟩)
  simp only [PR.andThen, mustN, hM2, if_true] at ht2
  obtain ⟨g, hg⟩ : ∃ g, T2.length = g + 1 := ⟨T2.length - 1, by omega⟩
  rw [hg] at ht2
  unfold infixC at ht2
  dsimp only at ht2
  rw [show 1 + (x.length + 1) + 1 = x.length + 1 + 2 by omega] at ht2
  have hk : (nxT T2 y2.size (x.length + 1 + 2)).k = 6 := by rw [at2k 2 e2 rfl]; exact he2
  rw [if_pos ⟨by rw [hk]; decide, by unfold isM; rw [hk]; rfl⟩] at ht2
  injection ht2 with ht2
  injection ht2 with ht2 _
  exact ht2.symm
 ·rw [show (1 : Nat) + 0 = 1 from rfl] at h3
  rw [h3] at ht2
  cases ht2
end Go.Proofs.YtlogcealmiokkaaGreatDoor
namespace Go.Proofs.YtlogcealmiokkaaGreatDoor
open Go.RowKit
def erS (s : ByteArray) : Int := match sentN s with
 | .ok _ => 0
 | .error (_, e) => e
def OneF (s : ByteArray) (w : World) (e : Ending) (w' : World) : Prop := ∃ (k n : Int) (nm : ByteArray) (A : Option Addr) (m c : Nat) (NA : Option Addr) (nn nc : Nat) (p : Int),
 e = .returned (.tuple #[.agg #[.int .i64 k, .int .i64 n, .string nm, .slice A m c, .slice NA nn nc], .int .i64 p, .int .i64 (erS s)]) ∧ Below w.heap.size w w' ∧
  Hid (erS s = 0 → ∃ x, sentN s = .ok x ∧ TP w' (fun b => w.heap.size ≤ b) x.1 (.agg #[.int .i64 k, .int .i64 n, .string nm, .slice A m c]) ∧ x.1.nodes ≤ 1000) ∧ (erS s ≠ 0 → k = 0)
theorem OneN.form {s : ByteArray} {w w' : World} {e : Ending} (h : OneN s w e w') : OneF s w e w' := by
 cases hs : sentN s with
 | ok x =>
  obtain ⟨t, ns⟩ := x
  have h0 : erS s = 0 := by unfold erS; rw [hs]
  obtain ⟨k, n, nm, A, m, c, NA, nn, nc, p, rfl, h1, _, h2, _, _, h3⟩ := h.ok hs
  exact ⟨k, n, nm, A, m, c, NA, nn, nc, p, by rw [h0], h3, Lib.hid fun _ => ⟨(t, ns), hs, h1, h2⟩, fun h => absurd h0 h⟩
 | error pe =>
  obtain ⟨p, er⟩ := pe
  have h0 : erS s = er := by unfold erS; rw [hs]
  obtain ⟨hne, q, rfl, h3⟩ := h.er hs
  exact ⟨0, 0, ⟨#[]⟩, none, 0, 0, none, 0, 0, q, by rw [h0], h3, Lib.hid fun h => absurd (h0.symm.trans h) hne, fun _ => rfl⟩
set_option maxRecDepth 100000 in
set_option maxHeartbeats 8000000 in
theorem readbrackets_any (s : ByteArray) (w : World) (h : Bs w) : Calls Tryz.prog 8 #[.string s] w fun e w' => e = .returned (.bool true) ∧ Below w.heap.size w w' := by
 have HB := Lib.hid h
 by_cases hbig : (1024 : Int) < (s.size : Int)
 ·go_enter Tryz.func8, Tryz.ntmps8
  go_wp2_with fail
  go_ret
  exact ⟨rfl, Below.refl _ _⟩
 have hs1 : s.size ≤ 1024 := by omega
 obtain ⟨u, hu⟩ : ∃ u, (⟨#[40]⟩ : ByteArray) ++ s ++ ⟨#[10, 41]⟩ = u := ⟨_, rfl⟩
 obtain ⟨v, hv⟩ : ∃ v, (⟨#[40, 40]⟩ : ByteArray) ++ s ++ ⟨#[10, 41, 41]⟩ = v := ⟨_, rfl⟩
 have HU := Lib.hid hu
 have HV := Lib.hid hv
 have HU2 := Lib.hid (show u = ba (40 :: (s.data.toList ++ [10, 41])) from ba_ext (by rw [← hu]; simp))
 have HV2 := Lib.hid (show v = ba (40 :: 40 :: (s.data.toList ++ [10, 41, 41])) from ba_ext (by rw [← hv]; simp))
 have C1 := Lib.hid ((HB.out.one u).mono fun e w' h => h.form)
 obtain ⟨es, hes⟩ : ∃ e, erS u = e := ⟨_, rfl⟩
 obtain ⟨et, het⟩ : ∃ e, erS v = e := ⟨_, rfl⟩
 unfold OneF at C1
 rw [hes] at C1
 have HES := Lib.hid hes
 have HET := Lib.hid het
 clear h hu hv hes het
 go_enter Tryz.func8, Tryz.ntmps8
 go_wp2_with fail
 rw [HU.out]
 refine C1.out.mono ?_
 rintro e w1 ⟨k1, n1, nm1, A1, m1, c1, NA1, nn1, nc1, p1, rfl, hb1, hok1, hk1⟩
 have B1 := Lib.hid hb1
 have AX1 := Lib.hid ((Below.refl w1.heap.size w1).alloc (Nat.le_refl _) (Obj.cells #[.int .i64 k1, .int .i64 n1, .string nm1, .slice A1 m1 c1, .slice NA1 nn1 nc1] 34))
 have X1 := Lib.hid (heap_alloc_new w1 (Obj.cells #[.int .i64 k1, .int .i64 n1, .string nm1, .slice A1 m1 c1, .slice NA1 nn1 nc1] 34))
 have BB1 := Lib.hid (hb1.trans (AX1.out.mono hb1.size))
 have C2 := Lib.hid (((HB.out.below BB1.out).one v).mono fun e w' h => h.form)
 unfold OneF at C2
 rw [HET.out] at C2
 have HK1 := Lib.hid hk1
 clear hb1 C1 hk1
 go_wp2_with fail
 rw [HV.out]
 refine C2.out.mono ?_
 rintro e w2 ⟨k2, n2, nm2, A2, m2, c2, NA2, nn2, nc2, p2, rfl, hb2, hok2, hk2⟩
 have AX2 := Lib.hid ((Below.refl w2.heap.size w2).alloc (Nat.le_refl _) (Obj.cells #[.int .i64 k2, .int .i64 n2, .string nm2, .slice A2 m2 c2, .slice NA2 nn2 nc2] 34))
 have X2 := Lib.hid (heap_alloc_new w2 (Obj.cells #[.int .i64 k2, .int .i64 n2, .string nm2, .slice A2 m2 c2, .slice NA2 nn2 nc2] 34))
 have G2 := Lib.hid (hb2.trans (AX2.out.mono hb2.size))
 have BB2 := Lib.hid (BB1.out.trans (G2.out.mono BB1.out.size))
 have K12 := Lib.hid (AX1.out.trans (G2.out.mono AX1.out.size))
 have X12 := Lib.hid ((G2.out.block _ (heap_lt X1.out)).trans X1.out)
 clear hb2 C2 hk2
 go_wp2_with fail
 rw [HU.out]
 have C3 := Lib.hid (fun W => (onexn_any u W).mono fun e w' h => h.form)
 unfold OneF at C3
 rw [HES.out] at C3
 refine (C3.out _).mono ?_
 rintro e w3 ⟨k3, n3, nm3, A3, m3, c3, NA3, nn3, nc3, p3, rfl, hb3, hok3, hk3⟩
 have AX3 := Lib.hid ((Below.refl w3.heap.size w3).alloc (Nat.le_refl _) (Obj.cells #[.int .i64 k3, .int .i64 n3, .string nm3, .slice A3 m3 c3, .slice NA3 nn3 nc3] 34))
 have X3 := Lib.hid (heap_alloc_new w3 (Obj.cells #[.int .i64 k3, .int .i64 n3, .string nm3, .slice A3 m3 c3, .slice NA3 nn3 nc3] 34))
 have G3 := Lib.hid (hb3.trans (AX3.out.mono hb3.size))
 have BB3 := Lib.hid (BB2.out.trans (G3.out.mono BB2.out.size))
 have K13 := Lib.hid (K12.out.trans (G3.out.mono K12.out.size))
 have K23 := Lib.hid (AX2.out.trans (G3.out.mono AX2.out.size))
 have X13 := Lib.hid ((G3.out.block _ (heap_lt X12.out)).trans X12.out)
 have X23 := Lib.hid ((G3.out.block _ (heap_lt X2.out)).trans X2.out)
 clear hb3 C3 hk3
 go_wp2_with fail
 rw [HV.out]
 have C4 := Lib.hid (fun W => (onexn_any v W).mono fun e w' h => h.form)
 unfold OneF at C4
 rw [HET.out] at C4
 refine (C4.out _).mono ?_
 rintro e w4 ⟨k4, n4, nm4, A4, m4, c4, NA4, nn4, nc4, p4, rfl, hb4, hok4, hk4⟩
 have AX4 := Lib.hid ((Below.refl w4.heap.size w4).alloc (Nat.le_refl _) (Obj.cells #[.int .i64 k4, .int .i64 n4, .string nm4, .slice A4 m4 c4, .slice NA4 nn4 nc4] 34))
 have G4 := Lib.hid (hb4.trans (AX4.out.mono hb4.size))
 have BB4 := Lib.hid (BB3.out.trans (G4.out.mono BB3.out.size))
 have K14 := Lib.hid (K13.out.trans (G4.out.mono K13.out.size))
 have K24 := Lib.hid (K23.out.trans (G4.out.mono K23.out.size))
 have K34 := Lib.hid (AX3.out.trans (G4.out.mono AX3.out.size))
 have X14 := Lib.hid ((G4.out.block _ (heap_lt X13.out)).trans X13.out)
 have X24 := Lib.hid ((G4.out.block _ (heap_lt X23.out)).trans X23.out)
 have X34 := Lib.hid ((G4.out.block _ (heap_lt X3.out)).trans X3.out)
 obtain ⟨x0, x1, x2, x3, _⟩ := box5 X14.out
 clear hb4 C4 hok4 hk4
 have hss : (es != es) = false := by simp
 have htt : (et != et) = false := by simp
 by_cases he : es = 0
 ·subst he
  by_cases hf : et = 0
  ·subst hf
   obtain ⟨z1, hz1, ht1, hn1⟩ := hok1.out rfl
   obtain ⟨z2, hz2, ht2, hn2⟩ := hok2.out rfl
   obtain ⟨z3, hz3, ht3, hn3⟩ := hok3.out rfl
   have e3 : z3 = z1 := by rw [hz1] at hz3; injection hz3 with e; exact e.symm
   have e2 : z2.1 = z1.1 := br_twice (by rw [← HU2.out]; exact hz1) (by rw [← HV2.out]; exact hz2)
   subst e3
   rw [e2] at ht2
   obtain ⟨y0, y1, y2, y3, _⟩ := box5 X24.out
   have CA := Lib.hid (same_any _ _ _ _ (ht1.at_ K14.out) (ht2.at_ K24.out) (Nat.le_trans hn1 (by decide)))
   have CB := Lib.hid (fun W k => same_any _ _ _ W (ht1.at_ (K14.out.trans (Below.mono k K14.out.size))) (ht3.at_ (K34.out.trans (Below.mono k K34.out.size))) (Nat.le_trans hn1 (by decide)))
   clear hok1 hok2 hok3 ht1 ht2 ht3 hz1 hz2 hz3
   go_wp2_with fail
   refine CA.out.mono ?_
   rintro e w5 ⟨rfl, hb5⟩
   have BB5 := Lib.hid (BB4.out.trans (hb5.mono BB4.out.size))
   have X15 := Lib.hid ((hb5.block _ (heap_lt X14.out)).trans X14.out)
   have X35 := Lib.hid ((hb5.block _ (heap_lt X34.out)).trans X34.out)
   have C5 := Lib.hid (CB.out w5 hb5)
   clear x0 x1 x2 x3 y0 y1 y2 y3 hb5 CA CB
   obtain ⟨x0, x1, x2, x3, _⟩ := box5 X15.out
   obtain ⟨y0, y1, y2, y3, _⟩ := box5 X35.out
   go_wp2_with fail
   refine C5.out.mono ?_
   rintro e w6 ⟨rfl, hb6⟩
   have BB6 := Lib.hid (BB5.out.trans (hb6.mono BB5.out.size))
   clear hb6 C5 x0 x1 x2 x3 y0 y1 y2 y3
   go_wp2_with fail
   go_ret
   exact ⟨rfl, BB6.out⟩
  ·have hf1 : (et != 0) = true := by simpa using hf
   clear hok1 hok2 hok3
   by_cases hk : k1 = 0
   ·subst hk
    go_wp2_with fail
    go_ret
    exact ⟨rfl, BB4.out⟩
   ·have hk' : (k1 == 0) = false := by simpa using hk
    go_wp2_with fail
    go_ret
    exact ⟨rfl, BB4.out⟩
 ·have he1 : (es != 0) = true := by simpa using he
  obtain rfl := HK1.out he
  clear hok1 hok2 hok3
  go_wp2_with fail
  go_ret
  exact ⟨rfl, BB4.out⟩
end Go.Proofs.YtlogcealmiokkaaGreatDoor
