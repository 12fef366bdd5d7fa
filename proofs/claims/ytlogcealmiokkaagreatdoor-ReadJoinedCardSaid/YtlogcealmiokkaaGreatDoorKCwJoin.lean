/- The walk of ReadJoined; what is read of two texts with a line feed between. -/
import Derived.Test.YtlogcealmiokkaaGreatDoorKGb
import Derived.Test.YtlogcealmiokkaaGreatDoorKGv
import Derived.Test.YtlogcealmiokkaaGreatDoorKRd14
import Derived.Test.YtlogcealmiokkaaGreatDoorKGu
import Derived.Test.YtlogcealmiokkaaGreatDoorKCwNums
import Derived.Deep.RegionHeld3
import Derived.Test.YtlogcealmiokkaaGreatDoorKRowOps
import Derived.Maps.AppendAt
import Derived.Test.YtlogcealmiokkaaGreatDoorKLp0
import Derived.Test.YtlogcealmiokkaaGreatDoorKRd6
namespace Go.Proofs.YtlogcealmiokkaaGreatDoor
open Go.RowKit
end Go.Proofs.YtlogcealmiokkaaGreatDoor
namespace Go.Proofs.YtlogcealmiokkaaGreatDoor
theorem Alike.toks {u u' : ByteArray} {o o' n : Nat} (h : Alike u u' o o' n) : ∀ (m k : Nat) (l l' r : List Tk), n - k ≤ m → k ≤ n → (∀ f, k ≤ f → opens l.getLast? (o + f) = opens l'.getLast? (o' + f)) → toksN u' (o' + k) l' = .ok r →
 ∃ x, r = l' ++ x ∧ (∀ y ∈ x, o' ≤ y.a ∧ o' ≤ y.b) ∧ (l.length + x.length ≤ 1000 → toksN u (o + k) l = .ok (l ++ x.map (Tk.sh o o')))
 | m, k, l, l', r, hm, hk, ho, ht => by
  have h1 := h.su
  have h2 := h.su'
  by_cases hkn : k < n
  ·rw [toksN_one (by omega)] at ht
   obtain ⟨d, b, h3, h4, h5⟩ := h.betN k
   have hge := betN_ge (s := u') (j := o' + k) (by omega)
   rw [h4] at ht hge
   dsimp only at hge
   cases b with
   | false => cases ht
   | true =>
    dsimp only at ht
    by_cases hd : d = n
    ·rw [if_pos (by omega)] at ht
     injection ht with ht
     subst ht
     refine ⟨[], by simp, by simp, fun _ => ?_⟩
     rw [toksN_one (by omega), h3]
     dsimp only
     rw [if_pos (by omega)]
     simp
    ·rw [if_neg (by omega)] at ht
     cases hy : oneN u' (o' + d) l' with
     | bad p e => rw [hy] at ht; cases ht
     | ok y =>
      rw [hy] at ht
      dsimp only at ht
      have hok := oneN_ok hy (by omega)
      by_cases hl : l.length = 1000
      ·obtain ⟨c, hc⟩ : ∃ c, y.b = o' + c := ⟨y.b - o', by omega⟩
       match m, hm with
       | 0, hm => omega
       | m + 1, hm =>
        rw [hc] at ht
        obtain ⟨x, rfl, h7, h8⟩ := h.toks m c (l ++ [y.sh o o']) (l' ++ [y]) r (by omega) (by omega) (by
         intro f hf
         simp only [List.getLast?_append, List.getLast?_singleton, Option.some_or, opens, Tk.sh]
         congr 1
         rw [hc]
         apply Bool.eq_iff_iff.2
         simp only [beq_iff_eq]
         omega) ht
        refine ⟨y :: x, by simp, ?_, fun hh => ?_⟩
        ·intro z hz
         rcases List.mem_cons.1 hz with rfl | hz
         ·omega
         ·exact h7 z hz
        ·simp at hh; omega
      ·obtain ⟨h6, ha, c, hc⟩ := h.one d l l' (ho d h5) hy hl
       match m, hm with
       | 0, hm => omega
       | m + 1, hm =>
        rw [hc] at ht
        obtain ⟨x, rfl, h7, h8⟩ := h.toks m c (l ++ [y.sh o o']) (l' ++ [y]) r (by omega) (by omega) (by
         intro f hf
         simp only [List.getLast?_append, List.getLast?_singleton, Option.some_or, opens, Tk.sh]
         congr 1
         rw [hc]
         apply Bool.eq_iff_iff.2
         simp only [beq_iff_eq]
         omega) ht
        refine ⟨y :: x, by simp, ?_, fun hh => ?_⟩
        ·intro z hz
         rcases List.mem_cons.1 hz with rfl | hz
         ·omega
         ·exact h7 z hz
        ·rw [toksN_one (by omega), h3]
         dsimp only
         rw [if_neg (by omega), h6]
         dsimp only
         have hb : (y.sh o o').b = o + c := by simp only [Tk.sh]; omega
         rw [hb, h8 (by simp at hh ⊢; omega)]
         simp
  ·have hkk : k = n := by omega
   subst hkk
   rw [toksN_end (by omega)] at ht
   injection ht with ht
   subst ht
   exact ⟨[], by simp, by simp, fun _ => by rw [toksN_end (by omega)]; simp⟩
theorem bet_toks {u : ByteArray} {j j' : Nat} (hj : j < u.size) (hj' : j' ≤ u.size) (h : betN u j = betN u j') (l : List Tk) : toksN u j l = toksN u j' l := by
 by_cases h1 : j' < u.size
 ·rw [toksN_one hj, toksN_one h1, h]
 ·rw [toksN_end (k := j') (by omega), toksN_one hj, h, betN_end (by omega)]
  dsimp only
  rw [if_pos (by omega)]
theorem Ahead.toks {s u : ByteArray} (h : Ahead s u) : ∀ (m k : Nat) (l r : List Tk), s.size - k ≤ m → k ≤ s.size → toksN s k l = .ok r → toksN u k l = toksN u s.size r
 | m, k, l, r, hm, hk, ht => by
  have hlt := h.lt
  by_cases hks : k < s.size
  ·rw [toksN_one hks] at ht
   cases hbe : Go.Proofs.YtlogcealmiokkaaGreatDoor.betN s k with
   | mk f b =>
    rw [hbe] at ht
    have hge := betN_ge (s := s) (j := k) (by omega)
    rw [hbe] at hge
    dsimp only at hge
    cases b with
    | false => cases ht
    | true =>
     dsimp only at ht
     have hb := h.betN _ k f (Nat.le_refl _) hk hbe
     by_cases hf : f = s.size
     ·rw [if_pos hf] at ht
      injection ht with ht
      subst ht
      exact bet_toks (by omega) (by omega) (hb.2 hf) l
     ·rw [if_neg hf] at ht
      cases ho : oneN s f l with
      | bad p e => rw [ho] at ht; cases ht
      | ok x =>
       rw [ho] at ht
       have hx := oneN_ok ho (by omega)
       rw [toksN_one (s := u) (k := k) (by omega), hb.1 (by omega)]
       dsimp only
       rw [if_neg (by omega), h.one (by omega) ho]
       match m, hm with
       | 0, hm => omega
       | m + 1, hm => exact h.toks m x.b _ r (by omega) (by omega) ht
  ·have hkk : k = s.size := by omega
   subst hkk
   rw [toksN_end (Nat.le_refl _)] at ht
   injection ht with ht
   subst ht
   rfl
theorem lex_toks {s : ByteArray} {r : List Tk} (h : lexN s = .ok r) : toksN s 0 [] = .ok r ∧ s.size ≤ 4096 := by
 unfold lexN at h
 split at h
 ·cases h
 ·exact ⟨h, by omega⟩
theorem lex_last {s : ByteArray} {r : List Tk} (h : lexN s = .ok r) {f : Nat} (hf : s.size < f) : opens r.getLast? f = false := by
 have h1 := (lexN_ok h).2.2
 cases hr : r.getLast? with
 | none => rfl
 | some x =>
  have hx := h1 x (List.mem_of_getLast? hr)
  have := hx.2.2.2.2
  simp only [opens]
  have : (x.b == f) = false := by
   apply Bool.eq_false_iff.2
   intro h
   have : x.b = f := by simpa using h
   omega
  rw [this, Bool.and_false]
theorem bu_append (a b : ByteArray) (i : Nat) : bu (a ++ b) i = if i < a.size then bu a i else bu b (i - a.size) := by
 obtain ⟨⟨a⟩⟩ := a
 obtain ⟨⟨b⟩⟩ := b
 simp only [bu, ByteArray.data_append, List.append_toArray, List.getD_eq_getElem?_getD]
 have : (ByteArray.mk ⟨a⟩).size = a.length := rfl
 rw [this]
 split
 ·rename_i h; rw [List.getElem?_append_left h]
 ·rename_i h; rw [List.getElem?_append_right (by omega)]
end Go.Proofs.YtlogcealmiokkaaGreatDoor
namespace Go.Proofs.YtlogcealmiokkaaGreatDoor
end Go.Proofs.YtlogcealmiokkaaGreatDoor
namespace Go.Proofs.YtlogcealmiokkaaGreatDoor
open Go.RowKit
end Go.Proofs.YtlogcealmiokkaaGreatDoor
namespace Go.Proofs.YtlogcealmiokkaaGreatDoor
open Go.RowKit
section
variable (V : Int → List UInt8)
end
section
variable (V : Int → List UInt8)
end
end Go.Proofs.YtlogcealmiokkaaGreatDoor
namespace Go.Proofs.YtlogcealmiokkaaGreatDoor
open Go.RowKit
section
variable (V : Int → List UInt8)
end
theorem Ok52.pure {c : Prop} {α : Type} (x : α × Nat × List ByteArray) : Ok52 c (.ok x) x := .inl rfl
section
variable {tk : List Tk} {sz : Nat}
end
end Go.Proofs.YtlogcealmiokkaaGreatDoor
namespace Go.Proofs.YtlogcealmiokkaaGreatDoor
open Go.RowKit
end Go.Proofs.YtlogcealmiokkaaGreatDoor
namespace Go.Proofs.YtlogcealmiokkaaGreatDoor
open Go.RowKit
end Go.Proofs.YtlogcealmiokkaaGreatDoor
namespace Go.Proofs.YtlogcealmiokkaaGreatDoor
open Go.RowKit
section
variable {V : Int → List UInt8} {u : ByteArray}
end
end Go.Proofs.YtlogcealmiokkaaGreatDoor
namespace Go.Proofs.YtlogcealmiokkaaGreatDoor
open Go.RowKit
end Go.Proofs.YtlogcealmiokkaaGreatDoor
namespace Go.Proofs.YtlogcealmiokkaaGreatDoor
open Go.RowKit
def O52 {α : Type} (c : Prop) (r : PR α) (x : α × Nat × List ByteArray) : Prop := r = .ok x ∨ (¬ c ∧ ∃ p, r = .error (p, 52))
theorem O52.bind {c : Prop} {α β : Type} {r : PR α} {a : α} {j : Nat} {ns : List ByteArray} {f : α → Nat → List ByteArray → PR β} {y : β × Nat × List ByteArray} (h : O52 c r (a, j, ns)) (h2 : O52 c (f a j ns) y) : O52 c (r.andThen f) y := by
 rcases h with rfl | ⟨h1, p, rfl⟩
 ·exact h2
 ·exact .inr ⟨h1, p, rfl⟩
theorem O52.pure {c : Prop} {α : Type} (x : α × Nat × List ByteArray) : O52 c (.ok x) x := .inl rfl
def MkB (x : Tk) (c : UInt8) : Prop := x.k = 5 ∧ x.t = ba [c]
structure Fol (tk tk' : List Tk) (sz sz' o e : Nat) : Prop where
 same : ∀ i, i < e → (nxT tk' sz' (o + i)).k = (nxT tk sz i).k ∧ (nxT tk' sz' (o + i)).t = (nxT tk sz i).t
 adj : ∀ i, i + 1 < e → ((nxT tk' sz' (o + i + 1)).a = (nxT tk' sz' (o + i)).b ↔ (nxT tk sz (i + 1)).a = (nxT tk sz i).b)
 st : (nxT tk sz e).k = 6
 st' : (nxT tk' sz' (o + e)).k = 6 ∨ MkB (nxT tk' sz' (o + e)) 41
 lt : e < tk.length
 lt' : o + e < tk'.length
theorem ok_and {α β : Type} {r : PR α} {f : α → Nat → List ByteArray → PR β} {y : β × Nat × List ByteArray} (h : r.andThen f = .ok y) : ∃ a j ns, r = .ok (a, j, ns) ∧ f a j ns = .ok y := by
 cases r with
 | error e => cases h
 | ok x => exact ⟨x.1, x.2.1, x.2.2, rfl, h⟩
section
variable {tk tk' : List Tk} {sz sz' o e : Nat}
theorem Fol.isM (h : Fol tk tk' sz sz' o e) {i : Nat} (hi : i < e) (m : ByteArray) : isM tk' sz' (o + i) m = Go.Proofs.YtlogcealmiokkaaGreatDoor.isM tk sz i m := by
 unfold Go.Proofs.YtlogcealmiokkaaGreatDoor.isM
 rw [(h.same i hi).1, (h.same i hi).2]
theorem Fol.isM_end (h : Fol tk tk' sz sz' o e) (m : ByteArray) : Go.Proofs.YtlogcealmiokkaaGreatDoor.isM tk sz e m = false := by
 unfold Go.Proofs.YtlogcealmiokkaaGreatDoor.isM
 rw [h.st]; rfl
theorem Fol.isM_end' (h : Fol tk tk' sz sz' o e) {m : ByteArray} (hm : (m.toList == [41]) = false) : Go.Proofs.YtlogcealmiokkaaGreatDoor.isM tk' sz' (o + e) m = false := by
 unfold Go.Proofs.YtlogcealmiokkaaGreatDoor.isM
 rcases h.st' with h1 | h1
 ·rw [h1]; rfl
 ·rw [h1.2, show (ba [41]).toList = [41] from by rw [ByteArray.toList_eq]; rfl, show ([41] == m.toList) = false from by rw [BEq.comm]; exact hm, Bool.and_false]
def TmF (o e : Nat) (c : Prop) (tm tm' : Int → Nat → List ByteArray → PR T) : Prop :=
 ∀ m i ns t j ns', i ≤ e → tm m i ns = .ok (t, j, ns') → i ≤ j ∧ j ≤ e ∧ O52 c (tm' m (o + i) ns) (t, o + j, ns')
theorem must_fol (h : Fol tk tk' sz sz' o e) {α : Type} {m : ByteArray} {a b : α} {i j : Nat} {ns ns' : List ByteArray} (hi : i ≤ e) (hr : mustN tk sz m a i ns = .ok (b, j, ns')) : j = i + 1 ∧ i < e ∧ b = a ∧ ns' = ns ∧ mustN tk' sz' m a (o + i) ns = .ok (a, o + j, ns) := by
 unfold mustN at hr
 split at hr
 ·rename_i hm
  injection hr with hr
  injection hr with h1 h2
  injection h2 with h2 h3
  subst h1 h2 h3
  have hie : i < e := by
   rcases Nat.lt_or_ge i e with h4 | h4
   ·exact h4
   ·obtain rfl : i = e := by omega
    rw [h.isM_end] at hm; cases hm
  refine ⟨rfl, hie, rfl, rfl, ?_⟩
  unfold mustN
  rw [if_pos (by rw [h.isM hie]; exact hm)]
  rfl
 ·cases hr
variable {c : Prop} {tm tm' : Int → Nat → List ByteArray → PR T}
theorem comma_ne : ((⟨#[44]⟩ : ByteArray).toList == [41]) = false := by rw [ByteArray.toList_eq]; rfl
theorem rowC_fol (h : Fol tk tk' sz sz' o e) (ht : TmF o e c tm tm') : ∀ (f f' : Nat) (l : List T) (j : Nat) (ns : List ByteArray) (l' : List T) (j' : Nat) (ns' : List ByteArray), j ≤ e → e ≤ j + f → e ≤ j + f' → rowC tk sz tm f l j ns = .ok (l', j', ns') → j ≤ j' ∧ j' ≤ e ∧ O52 c (rowC tk' sz' tm' f' l (o + j) ns) (l', o + j', ns') := by
 intro f
 induction f with
 | zero =>
  intro f' l j ns l' j' ns' hj hf hf' hr
  unfold rowC at hr
  injection hr with hr
  injection hr with h1 h2
  injection h2 with h2 h3
  subst h1 h2 h3
  obtain rfl : j = e := by omega
  refine ⟨Nat.le_refl _, Nat.le_refl _, ?_⟩
  cases f' with
  | zero => exact O52.pure _
  | succ f' =>
   unfold rowC
   rw [if_neg (by rw [h.isM_end' comma_ne]; simp)]
   exact O52.pure _
 | succ f ih =>
  intro f' l j ns l' j' ns' hj hf hf' hr
  unfold rowC at hr
  split at hr
  ·rename_i hm
   have hje : j < e := by
    rcases Nat.lt_or_ge j e with h4 | h4
    ·exact h4
    ·obtain rfl : j = e := by omega
     rw [h.isM_end] at hm; cases hm
   obtain ⟨t, j1, ns1, h1, h2⟩ := ok_and hr
   obtain ⟨g1, g2, g3⟩ := ht _ _ _ _ _ _ hje h1
   obtain ⟨f', rfl⟩ : ∃ k, f' = k + 1 := ⟨f' - 1, by omega⟩
   obtain ⟨k1, k2, k3⟩ := ih f' _ _ _ _ _ _ g2 (by omega) (by omega) h2
   refine ⟨by omega, k2, ?_⟩
   unfold rowC
   rw [if_pos (by rw [h.isM hje]; exact hm)]
   exact O52.bind g3 k3
  ·rename_i hm
   injection hr with hr
   injection hr with h1 h2
   injection h2 with h2 h3
   subst h1 h2 h3
   refine ⟨Nat.le_refl _, hj, ?_⟩
   cases f' with
   | zero => exact O52.pure _
   | succ f' =>
    unfold rowC
    rw [if_neg ?_]
    ·exact O52.pure _
    ·rcases Nat.lt_or_ge j e with h4 | h4
     ·rw [h.isM h4]; exact hm
     ·obtain rfl : j = e := by omega
      rw [h.isM_end' comma_ne]; simp
theorem rowP_fol (h : Fol tk tk' sz sz' o e) (ht : TmF o e c tm tm') {j : Nat} {ns : List ByteArray} {l' : List T} {j' : Nat} {ns' : List ByteArray} (hj : j ≤ e) (hr : rowP tk sz tm j ns = .ok (l', j', ns')) : j ≤ j' ∧ j' ≤ e ∧ O52 c (rowP tk' sz' tm' (o + j) ns) (l', o + j', ns') := by
 unfold rowP at hr
 obtain ⟨t, j1, ns1, h1, h2⟩ := ok_and hr
 obtain ⟨g1, g2, g3⟩ := ht _ _ _ _ _ _ hj h1
 have := h.lt
 have := h.lt'
 obtain ⟨k1, k2, k3⟩ := rowC_fol h ht _ tk'.length _ _ _ _ _ _ g2 (by omega) (by omega) h2
 exact ⟨by omega, k2, O52.bind g3 k3⟩
theorem ok_split {α : Type} {a b : α} {i j : Nat} {ns ns' : List ByteArray} (h : (Except.ok (a, i, ns) : PR α) = .ok (b, j, ns')) : b = a ∧ j = i ∧ ns' = ns := by
 injection h with h
 injection h with h1 h2
 injection h2 with h2 h3
 exact ⟨h1.symm, h2.symm, h3.symm⟩
theorem listP_fol (h : Fol tk tk' sz sz' o e) (ht : TmF o e c tm tm') {j : Nat} {ns : List ByteArray} {l' : T} {j' : Nat} {ns' : List ByteArray} (hj : j ≤ e) (hr : listP tk sz tm j ns = .ok (l', j', ns')) : j ≤ j' ∧ j' ≤ e ∧ O52 c (listP tk' sz' tm' (o + j) ns) (l', o + j', ns') := by
 have n93 : ((⟨#[93]⟩ : ByteArray).toList == [41]) = false := by rw [ByteArray.toList_eq]; rfl
 have n124 : ((⟨#[124]⟩ : ByteArray).toList == [41]) = false := by rw [ByteArray.toList_eq]; rfl
 unfold listP at hr ⊢
 have e1 : isM tk' sz' (o + j) ⟨#[93]⟩ = isM tk sz j ⟨#[93]⟩ := by
  rcases Nat.lt_or_ge j e with h4 | h4
  ·exact h.isM h4 _
  ·obtain rfl : j = e := by omega
   rw [h.isM_end' n93, h.isM_end]
 rw [e1]
 split at hr
 ·rename_i hm
  obtain ⟨rfl, rfl, rfl⟩ := ok_split hr
  rw [if_pos hm]
  have hje : j < e := by
   rcases Nat.lt_or_ge j e with h4 | h4
   ·exact h4
   ·obtain rfl : j = e := by omega
    rw [h.isM_end] at hm; cases hm
  exact ⟨by omega, hje, O52.pure _⟩
 ·rename_i hm
  rw [if_neg hm]
  obtain ⟨l, j1, ns1, h1, h2⟩ := ok_and hr
  obtain ⟨g1, g2, g3⟩ := rowP_fol h ht hj h1
  have e2 : isM tk' sz' (o + j1) ⟨#[124]⟩ = isM tk sz j1 ⟨#[124]⟩ := by
   rcases Nat.lt_or_ge j1 e with h4 | h4
   ·exact h.isM h4 _
   ·obtain rfl : j1 = e := by omega
    rw [h.isM_end' n124, h.isM_end]
  split at h2
  ·rename_i hm2
   have hje : j1 < e := by
    rcases Nat.lt_or_ge j1 e with h4 | h4
    ·exact h4
    ·obtain rfl : j1 = e := by omega
     rw [h.isM_end] at hm2; cases hm2
   obtain ⟨r, j2, ns2, h3, h4⟩ := ok_and h2
   obtain ⟨k1, k2, k3⟩ := ht _ _ _ _ _ _ hje h3
   obtain ⟨rfl, q2, rfl, rfl, q3⟩ := must_fol h k2 h4
   refine ⟨by omega, by omega, O52.bind g3 ?_⟩
   rw [e2, if_pos hm2]
   exact O52.bind k3 (.inl q3)
  ·rename_i hm2
   obtain ⟨rfl, q2, rfl, rfl, q3⟩ := must_fol h g2 h2
   refine ⟨by omega, by omega, O52.bind g3 ?_⟩
   rw [e2, if_neg hm2]
   exact .inl q3
theorem ends_fol (h : Fol tk tk' sz sz' o e) {i : Nat} (hi : i ≤ e) : endsP tk' sz' (o + i) = endsP tk sz i := by
 rcases Nat.lt_or_ge i e with h4 | h4
 ·unfold endsP
  dsimp only
  rw [(h.same i h4).1, (h.same i h4).2]
 ·obtain rfl : i = e := by omega
  unfold endsP
  dsimp only
  rw [h.st]
  rcases h.st' with h1 | h1
  ·rw [h1]; rfl
  ·rw [h1.1, h1.2, show (ba [41]).toList = [41] from by rw [ByteArray.toList_eq]; rfl]
   rfl
theorem Fol.kind (h : Fol tk tk' sz sz' o e) {i : Nat} (hi : i ≤ e) {k : Int} (h5 : k ≠ 5) (h6 : k ≠ 6) : (nxT tk' sz' (o + i)).k = k ↔ (nxT tk sz i).k = k := by
 rcases Nat.lt_or_ge i e with h4 | h4
 ·rw [(h.same i h4).1]
 ·obtain rfl : i = e := by omega
  rw [h.st]
  rcases h.st' with h1 | h1
  ·rw [h1]
  ·rw [h1.1]
   exact ⟨fun h => absurd h.symm h5, fun h => absurd h.symm h6⟩
theorem Fol.before (h : Fol tk tk' sz sz' o e) {i : Nat} (hi : i ≤ e) (hk : (nxT tk sz i).k ≠ 6) : i < e := by
 rcases Nat.lt_or_ge i e with h4 | h4
 ·exact h4
 ·obtain rfl : i = e := by omega
  exact absurd h.st hk
theorem intP_fol {x x' : Tk} (hx : x'.t = x.t) {b : Bool} {i j : Nat} {ns ns' : List ByteArray} {t : T} (hr : intP x b i ns = .ok (t, j, ns')) : j = i ∧ ns' = ns ∧ ∀ k ns, intP x' b k ns = .ok (t, k, ns) := by
 unfold intP at hr ⊢
 cases hn : intN x.t b with
 | none => rw [hn] at hr; cases hr
 | some n =>
  rw [hn] at hr
  obtain ⟨rfl, rfl, rfl⟩ := ok_split hr
  refine ⟨rfl, rfl, fun k ns => ?_⟩
  rw [hx, hn]
theorem namedP_fol (h : Fol tk tk' sz sz' o e) (ht : TmF o e c tm tm') {most : Int} {i : Nat} {ns : List ByteArray} {x : T × Int} {j' : Nat} {ns' : List ByteArray} (hi : i < e) (hr : namedP tk sz tm (nxT tk sz i) most (i + 1) ns = .ok (x, j', ns')) :
 i < j' ∧ j' ≤ e ∧ O52 c (namedP tk' sz' tm' (nxT tk' sz' (o + i)) most (o + (i + 1)) ns) (x, o + j', ns') := by
 unfold namedP at hr ⊢
 dsimp only at hr ⊢
 obtain ⟨s1, s2⟩ := h.same i hi
 rw [s2]
 have hk4 := h.kind (i := i + 1) hi (k := 4) (by decide) (by decide)
 have hk3 := h.kind (i := i + 1) hi (k := 3) (by decide) (by decide)
 split at hr
 ·rename_i h4
  rw [if_pos (hk4.2 h4)]
  have hb := h.before hi (by rw [h4]; decide)
  obtain ⟨l, j1, ns1, h1, h2⟩ := ok_and hr
  obtain ⟨g1, g2, g3⟩ := rowP_fol h ht (by omega) h1
  obtain ⟨rfl, q2, rfl, rfl, q3⟩ := must_fol h g2 h2
  exact ⟨by omega, by omega, O52.bind g3 (.inl q3)⟩
 ·rename_i h4
  rw [if_neg (fun h => h4 (hk4.1 h))]
  split at hr
  ·rename_i h3
   have hb := h.before hi (by rw [h3.2.1]; decide)
   have had := h.adj i hb
   rw [if_pos ⟨h3.1, hk3.2 h3.2.1, had.2 h3.2.2⟩]
   obtain ⟨r, j1, ns1, h1, h2⟩ := ok_and hr
   obtain ⟨rfl, rfl, hint⟩ := intP_fol (h.same (i + 1) hb).2 h1
   obtain ⟨rfl, rfl, rfl⟩ := ok_split h2
   refine ⟨by omega, by omega, ?_⟩
   show O52 c ((intP (nxT tk' sz' (o + (i + 1))) true (o + (i + 1) + 1) ns').andThen _) _
   rw [hint]
   exact O52.pure _
  ·rename_i h3
   rw [if_neg ?_]
   ·cases hp : opPre (nxT tk sz i).t with
    | none =>
     rw [hp] at hr
     obtain ⟨rfl, rfl, rfl⟩ := ok_split hr
     exact ⟨by omega, hi, O52.pure _⟩
    | some q =>
     obtain ⟨p, m⟩ := q
     rw [hp] at hr
     dsimp only at hr ⊢
     rw [ends_fol h hi]
     split at hr
     ·rename_i hc
      rw [if_pos hc]
      obtain ⟨r, j1, ns1, h1, h2⟩ := ok_and hr
      obtain ⟨g1, g2, g3⟩ := ht _ _ _ _ _ _ hi h1
      obtain ⟨rfl, rfl, rfl⟩ := ok_split h2
      exact ⟨by omega, by omega, O52.bind g3 (O52.pure _)⟩
     ·rename_i hc
      rw [if_neg hc]
      obtain ⟨rfl, rfl, rfl⟩ := ok_split hr
      exact ⟨by omega, hi, O52.pure _⟩
   ·rintro ⟨e1, e2, e3⟩
    have e2' := hk3.1 e2
    have hb := h.before hi (by rw [e2']; decide)
    exact h3 ⟨e1, e2', (h.adj i hb).1 e3⟩
theorem operandP_fol (h : Fol tk tk' sz sz' o e) (ht : TmF o e c tm tm') {most : Int} {i : Nat} {ns : List ByteArray} {x : T × Int} {j' : Nat} {ns' : List ByteArray} (hi : i ≤ e) (hr : operandP tk sz tm most i ns = .ok (x, j', ns')) :
 i < j' ∧ j' ≤ e ∧ O52 c (operandP tk' sz' tm' most (o + i) ns) (x, o + j', ns') := by
 have n40 : ((⟨#[40]⟩ : ByteArray).toList == [41]) = false := by rw [ByteArray.toList_eq]; rfl
 by_cases hie : i < e
 ·obtain ⟨s1, s2⟩ := h.same i hie
  unfold operandP at hr ⊢
  dsimp only at hr ⊢
  rw [s1, s2, h.isM hie, h.isM hie, h.isM hie]
  split at hr
  ·rename_i h3
   rw [if_pos h3]
   obtain ⟨r, j1, ns1, h1, h2⟩ := ok_and hr
   obtain ⟨rfl, rfl, hint⟩ := intP_fol s2 h1
   obtain ⟨rfl, rfl, rfl⟩ := ok_split h2
   rw [hint]
   exact ⟨by omega, by omega, O52.pure _⟩
  ·rename_i h3
   rw [if_neg h3]
   split at hr
   ·rename_i h2
    rw [if_pos h2]
    obtain ⟨rfl, rfl, rfl⟩ := ok_split hr
    exact ⟨by omega, by omega, O52.pure _⟩
   ·rename_i h2
    rw [if_neg h2]
    split at hr
    ·rename_i h4
     rw [if_pos h4]
     obtain ⟨r, j1, ns1, h1, h5⟩ := ok_and hr
     obtain ⟨g1, g2, g3⟩ := ht _ _ _ _ _ _ hie h1
     obtain ⟨rfl, q2, rfl, rfl, q3⟩ := must_fol h g2 h5
     exact ⟨by omega, by omega, O52.bind g3 (.inl q3)⟩
    ·rename_i h4
     rw [if_neg h4]
     split at hr
     ·rename_i h5
      rw [if_pos h5]
      obtain ⟨r, j1, ns1, h1, h6⟩ := ok_and hr
      obtain ⟨g1, g2, g3⟩ := listP_fol h ht hie h1
      obtain ⟨rfl, rfl, rfl⟩ := ok_split h6
      exact ⟨by omega, by omega, O52.bind g3 (O52.pure _)⟩
     ·rename_i h5
      rw [if_neg h5]
      split at hr
      ·rename_i h6
       rw [if_pos h6]
       have n125 : ((⟨#[125]⟩ : ByteArray).toList == [41]) = false := by rw [ByteArray.toList_eq]; rfl
       have e1 : isM tk' sz' (o + i + 1) ⟨#[125]⟩ = isM tk sz (i + 1) ⟨#[125]⟩ := by
        rcases Nat.lt_or_ge (i + 1) e with h7 | h7
        ·exact h.isM h7 _
        ·have e2 : i + 1 = e := by omega
         rw [e2, show o + i + 1 = o + e by omega, h.isM_end' n125, h.isM_end]
       rw [e1]
       split at hr
       ·rename_i h7
        rw [if_pos h7]
        have hb : i + 1 < e := by
         rcases Nat.lt_or_ge (i + 1) e with h8 | h8
         ·exact h8
         ·have e2 : i + 1 = e := by omega
          rw [e2, h.isM_end] at h7; cases h7
        obtain ⟨rfl, rfl, rfl⟩ := ok_split hr
        exact ⟨by omega, by omega, O52.pure _⟩
       ·rename_i h7
        rw [if_neg h7]
        obtain ⟨r, j1, ns1, h1, h8⟩ := ok_and hr
        obtain ⟨g1, g2, g3⟩ := ht _ _ _ _ _ _ hie h1
        obtain ⟨rfl, q2, rfl, rfl, q3⟩ := must_fol h g2 h8
        exact ⟨by omega, by omega, O52.bind g3 (.inl q3)⟩
      ·rename_i h6
       rw [if_neg h6]
       split at hr
       ·rename_i h7
        rw [if_pos h7]
        exact namedP_fol h ht hie hr
       ·cases hr
 ·exfalso
  obtain rfl : i = e := by omega
  unfold operandP at hr
  dsimp only at hr
  rw [h.isM_end, h.isM_end, h.isM_end, h.st] at hr
  simp at hr
theorem infixC_fol (h : Fol tk tk' sz sz' o e) (ht : TmF o e c tm tm') (most : Int) : ∀ (f f' : Nat) (t : T) (pr : Int) (j : Nat) (ns : List ByteArray) (t' : T) (j' : Nat) (ns' : List ByteArray), j ≤ e → e ≤ j + f → e ≤ j + f' →
 infixC tk sz tm most f t pr j ns = .ok (t', j', ns') → j ≤ j' ∧ j' ≤ e ∧ O52 c (infixC tk' sz' tm' most f' t pr (o + j) ns) (t', o + j', ns') := by
 have stop : ∀ f' t pr ns, O52 c (infixC tk' sz' tm' most f' t pr (o + e) ns) (t, o + e, ns) := by
  intro f' t pr ns
  cases f' with
  | zero => exact O52.pure _
  | succ f' =>
   unfold infixC
   dsimp only
   rw [if_pos ⟨h.st'.elim (fun h1 => by rw [h1]; decide) (fun h1 => by rw [h1.1]; decide), h.isM_end' comma_ne⟩]
   exact O52.pure _
 intro f
 induction f with
 | zero =>
  intro f' t pr j ns t' j' ns' hj hf hf' hr
  unfold infixC at hr
  obtain ⟨rfl, rfl, rfl⟩ := ok_split hr
  obtain rfl : j' = e := by omega
  exact ⟨Nat.le_refl _, Nat.le_refl _, stop _ _ _ _⟩
 | succ f ih =>
  intro f' t pr j ns t' j' ns' hj hf hf' hr
  by_cases hje : j < e
  ·obtain ⟨f', rfl⟩ : ∃ k, f' = k + 1 := ⟨f' - 1, by omega⟩
   obtain ⟨s1, s2⟩ := h.same j hje
   unfold infixC at hr ⊢
   dsimp only at hr ⊢
   rw [s1, s2, h.isM hje]
   split at hr
   ·rename_i h1
    rw [if_pos h1]
    obtain ⟨rfl, rfl, rfl⟩ := ok_split hr
    exact ⟨Nat.le_refl _, hj, O52.pure _⟩
   ·rename_i h1
    rw [if_neg h1]
    cases ho : opIn (nxT tk sz j).t with
    | none =>
     rw [ho] at hr
     obtain ⟨rfl, rfl, rfl⟩ := ok_split hr
     exact ⟨Nat.le_refl _, hj, O52.pure _⟩
    | some q =>
     obtain ⟨p, l, r⟩ := q
     rw [ho] at hr
     dsimp only at hr ⊢
     split at hr
     ·rename_i h2
      rw [if_pos h2]
      obtain ⟨rfl, rfl, rfl⟩ := ok_split hr
      exact ⟨Nat.le_refl _, hj, O52.pure _⟩
     ·rename_i h2
      rw [if_neg h2]
      obtain ⟨t2, j1, ns1, h3, h4⟩ := ok_and hr
      obtain ⟨g1, g2, g3⟩ := ht _ _ _ _ _ _ hje h3
      obtain ⟨k1, k2, k3⟩ := ih f' _ _ _ _ _ _ _ g2 (by omega) (by omega) h4
      exact ⟨by omega, k2, O52.bind g3 k3⟩
  ·obtain rfl : j = e := by omega
   unfold infixC at hr
   dsimp only at hr
   rw [if_pos ⟨by rw [h.st]; decide, h.isM_end _⟩] at hr
   obtain ⟨rfl, rfl, rfl⟩ := ok_split hr
   exact ⟨Nat.le_refl _, Nat.le_refl _, stop _ _ _ _⟩
end
theorem termP_fol {tk tk' : List Tk} {sz sz' o e : Nat} (h : Fol tk tk' sz sz' o e) : ∀ (d d' : Nat), TmF o e (d ≤ d') (termP tk sz d) (termP tk' sz' d') := by
 intro d
 induction d with
 | zero =>
  intro d' m i ns t j ns' hi hr
  unfold termP at hr
  cases hr
 | succ d ih =>
  intro d' m i ns t j ns' hi hr
  rw [termP] at hr
  obtain ⟨x, j1, ns1, h1, h2⟩ := ok_and hr
  cases d' with
  | zero =>
   obtain ⟨g1, g2, _⟩ := operandP_fol h (ih 0) hi h1
   have := h.lt
   obtain ⟨k1, k2, _⟩ := infixC_fol h (ih 0) m _ tk.length _ _ _ _ _ _ _ g2 (by omega) (by omega) h2
   exact ⟨by omega, k2, .inr ⟨by omega, _, rfl⟩⟩
  | succ d' =>
   obtain ⟨g1, g2, g3⟩ := operandP_fol h (ih d') hi h1
   have := h.lt
   have := h.lt'
   obtain ⟨k1, k2, k3⟩ := infixC_fol h (ih d') m _ tk'.length _ _ _ _ _ _ _ g2 (by omega) (by omega) h2
   refine ⟨by omega, k2, ?_⟩
   have hc : (d + 1 ≤ d' + 1) = (d ≤ d') := by simp
   rw [hc, termP]
   exact O52.bind g3 k3
end Go.Proofs.YtlogcealmiokkaaGreatDoor
namespace Go.Proofs.YtlogcealmiokkaaGreatDoor
open Go.RowKit
section
variable {tk : List Tk} {sz : Nat} {tm : Int → Nat → List ByteArray → PR T}
def Ge {α : Type} (i : Nat) (r : PR α) : Prop := ∀ (x : α) (j : Nat) (ns : List ByteArray), r = .ok (x, j, ns) → i ≤ j
theorem Ge.ok {α : Type} {i j : Nat} (x : α) (ns : List ByteArray) (h : i ≤ j) : Ge i (.ok (x, j, ns) : PR α) := fun _ _ _ e => by
 obtain ⟨_, rfl, _⟩ := ok_split e
 exact h
theorem Ge.er {α : Type} {i : Nat} (e : Int × Int) : Ge i (.error e : PR α) := fun _ _ _ h => by cases h
theorem Ge.and {α β : Type} {i i' : Nat} {r : PR α} {f : α → Nat → List ByteArray → PR β} (h : Ge i' r) (hi : i ≤ i') (h2 : ∀ a j ns, i ≤ j → Ge i (f a j ns)) : Ge i (r.andThen f) := fun x j ns e => by
 obtain ⟨a, j1, ns1, h3, h4⟩ := ok_and e
 exact h2 a j1 ns1 (Nat.le_trans hi (h _ _ _ h3)) _ _ _ h4
theorem Ge.up {α : Type} {i i' : Nat} {r : PR α} (h : Ge i' r) (hi : i ≤ i') : Ge i r := fun x j ns e => Nat.le_trans hi (h x j ns e)
def TmGe (tm : Int → Nat → List ByteArray → PR T) : Prop := ∀ m i ns, Ge i (tm m i ns)
theorem ge_must {α : Type} (m : ByteArray) (a : α) (i : Nat) (ns : List ByteArray) : Ge i (mustN tk sz m a i ns) := by
 unfold mustN
 split
 ·exact .ok _ _ (by omega)
 ·exact .er _
theorem ge_int (x : Tk) (b : Bool) (j : Nat) (ns : List ByteArray) : Ge j (intP x b j ns) := by
 unfold intP
 split
 ·exact .ok _ _ (Nat.le_refl _)
 ·exact .er _
theorem ge_rowC (h : TmGe tm) : ∀ (f : Nat) (l : List T) (j : Nat) (ns : List ByteArray), Ge j (rowC tk sz tm f l j ns)
 | 0, _, _, _ => .ok _ _ (Nat.le_refl _)
 | f + 1, l, j, ns => by
  unfold rowC
  split
  ·exact (h _ _ _).and (by omega) fun _ _ _ hj => (ge_rowC h f _ _ _).up hj
  ·exact .ok _ _ (Nat.le_refl _)
theorem ge_row (h : TmGe tm) (j : Nat) (ns : List ByteArray) : Ge j (rowP tk sz tm j ns) := (h _ _ _).and (Nat.le_refl _) fun _ _ _ hj => (ge_rowC h _ _ _ _).up hj
theorem ge_list (h : TmGe tm) (j : Nat) (ns : List ByteArray) : Ge j (listP tk sz tm j ns) := by
 unfold listP
 split
 ·exact .ok _ _ (by omega)
 ·refine (ge_row h _ _).and (Nat.le_refl _) fun _ _ _ hj => ?_
  split
  ·exact (h _ _ _).and (by omega) fun _ _ _ hj => (ge_must _ _ _ _).up hj
  ·exact (ge_must _ _ _ _).up hj
theorem ge_named (h : TmGe tm) (t : Tk) (most : Int) (i : Nat) (ns : List ByteArray) : Ge i (namedP tk sz tm t most i ns) := by
 unfold namedP
 dsimp only
 split
 ·exact (ge_row h _ _).and (by omega) fun _ _ _ hj => (ge_must _ _ _ _).up hj
 ·split
  ·exact (ge_int _ _ _ _).and (by omega) fun _ _ _ hj => .ok _ _ hj
  ·split
   ·exact .ok _ _ (Nat.le_refl _)
   ·split
    ·exact (h _ _ _).and (Nat.le_refl _) fun _ _ _ hj => .ok _ _ hj
    ·exact .ok _ _ (Nat.le_refl _)
theorem ge_operand (h : TmGe tm) (most : Int) (i : Nat) (ns : List ByteArray) : Ge i (operandP tk sz tm most i ns) := by
 unfold operandP
 dsimp only
 split
 ·exact (ge_int _ _ _ _).and (by omega) fun _ _ _ hj => .ok _ _ hj
 ·split
  ·exact .ok _ _ (by omega)
  ·split
   ·exact (h _ _ _).and (by omega) fun _ _ _ hj => (ge_must _ _ _ _).up hj
   ·split
    ·exact (ge_list h _ _).and (by omega) fun _ _ _ hj => .ok _ _ hj
    ·split
     ·split
      ·exact .ok _ _ (by omega)
      ·exact (h _ _ _).and (by omega) fun _ _ _ hj => (ge_must _ _ _ _).up hj
     ·split
      ·exact (ge_named h _ _ _ _).up (by omega)
      ·exact .er _
theorem ge_infix (h : TmGe tm) (most : Int) : ∀ (f : Nat) (t : T) (pr : Int) (j : Nat) (ns : List ByteArray), Ge j (infixC tk sz tm most f t pr j ns)
 | 0, _, _, _, _ => .ok _ _ (Nat.le_refl _)
 | f + 1, t, pr, j, ns => by
  unfold infixC
  dsimp only
  split
  ·exact .ok _ _ (Nat.le_refl _)
  ·split
   ·exact .ok _ _ (Nat.le_refl _)
   ·split
    ·exact .ok _ _ (Nat.le_refl _)
    ·exact (h _ _ _).and (by omega) fun _ _ _ hj => (ge_infix h most f _ _ _ _).up hj
theorem term_ge : ∀ (d : Nat), TmGe (termP tk sz d)
 | 0 => fun _ _ _ => .er _
 | d + 1 => fun _ _ _ => (ge_operand (term_ge d) _ _ _).and (Nat.le_refl _) fun _ _ _ hj => (ge_infix (term_ge d) _ _ _ _ _ _).up hj
end
theorem nx_app {tk x : List Tk} {sz sz' i : Nat} (h : i < tk.length) : nxT (tk ++ x) sz' i = nxT tk sz i := by
 unfold nxT
 rw [dif_pos h, dif_pos (by rw [List.length_append]; omega), List.getElem_append_left h]
theorem join_a {tk x : List Tk} {sz sz' : Nat} : ∀ (f i : Nat) (l r : Sens) (f' : Nat), readC tk sz f i l = .ok r → i ≤ tk.length → tk.length ≤ i + f → (tk ++ x).length ≤ i + f' → ∃ f2, (tk ++ x).length ≤ tk.length + f2 ∧ readC (tk ++ x) sz' f' i l = readC (tk ++ x) sz' f2 tk.length r
 | 0, i, l, r, f', h, hi, hf, hf' => by
  injection h with h
  subst h
  obtain rfl : i = tk.length := by omega
  exact ⟨f', hf', rfl⟩
 | f + 1, i, l, r, f', h, hi, hf, hf' => by
  by_cases hlt : i < tk.length
  ·cases ht : termP tk sz 65 1200 i [] with
   | error e => obtain ⟨p, k⟩ := e; rw [readC_err hlt ht] at h; cases h
   | ok y =>
    obtain ⟨t, j, ns⟩ := y
    by_cases hk : (nxT tk sz j).k = 6
    ·rw [readC_go hlt ht hk] at h
     have hj : j < tk.length := by
      rcases Nat.lt_or_ge j tk.length with h1 | h1
      ·exact h1
      ·rw [nxT, dif_neg (by omega)] at hk
       exact absurd hk (by simp)
     have hF : Fol tk (tk ++ x) sz sz' 0 j := ⟨fun i hi => by rw [Nat.zero_add, nx_app (sz := sz) (by omega)]; exact ⟨rfl, rfl⟩, fun i hi => by rw [Nat.zero_add, nx_app (sz := sz) (by omega), nx_app (sz := sz) (by omega)], hk, .inl (by rw [Nat.zero_add, nx_app (sz := sz) hj]; exact hk), hj, by rw [List.length_append]; omega⟩
     have hij : i ≤ j := term_ge 65 _ _ _ _ _ _ ht
     obtain ⟨_, _, h3⟩ := termP_fol hF 65 65 _ _ _ _ _ _ hij ht
     have h4 : termP (tk ++ x) sz' 65 1200 i [] = .ok (t, j, ns) := by
      rcases h3 with h3 | ⟨h3, _⟩
      ·simpa using h3
      ·exact absurd (Nat.le_refl _) h3
     have hl : i < (tk ++ x).length := by rw [List.length_append]; omega
     obtain ⟨g, rfl⟩ : ∃ g, f' = g + 1 := ⟨f' - 1, by omega⟩
     rw [readC_go hl h4 (by rw [nx_app (sz := sz) hj]; exact hk)]
     exact join_a f (j + 1) _ r g h (by omega) (by omega) (by omega)
    ·rw [readC_no hlt ht hk] at h; cases h
  ·rw [readC_end hlt] at h
   injection h with h
   subst h
   obtain rfl : i = tk.length := by omega
   exact ⟨f', hf', rfl⟩
theorem join_b {tk tk' : List Tk} {sz sz' o : Nat} (hlen : tk'.length = o + tk.length) (hsame : ∀ i, i < tk.length → (nxT tk' sz' (o + i)).k = (nxT tk sz i).k ∧ (nxT tk' sz' (o + i)).t = (nxT tk sz i).t)
 (hadj : ∀ i, i + 1 < tk.length → ((nxT tk' sz' (o + i + 1)).a = (nxT tk' sz' (o + i)).b ↔ (nxT tk sz (i + 1)).a = (nxT tk sz i).b)) (l0 : Sens) :
 ∀ (f i : Nat) (l r : Sens) (f' : Nat), readC tk sz f i l = .ok r → i ≤ tk.length → tk.length ≤ i + f → tk'.length ≤ o + i + f' → readC tk' sz' f' (o + i) (l0 ++ l) = .ok (l0 ++ r)
 | 0, i, l, r, f', h, hi, hf, hf' => by
  injection h with h
  subst h
  rw [readC_end (by omega)]
 | f + 1, i, l, r, f', h, hi, hf, hf' => by
  by_cases hlt : i < tk.length
  ·cases ht : termP tk sz 65 1200 i [] with
   | error e => obtain ⟨p, k⟩ := e; rw [readC_err hlt ht] at h; cases h
   | ok y =>
    obtain ⟨t, j, ns⟩ := y
    by_cases hk : (nxT tk sz j).k = 6
    ·rw [readC_go hlt ht hk] at h
     have hj : j < tk.length := by
      rcases Nat.lt_or_ge j tk.length with h1 | h1
      ·exact h1
      ·rw [nxT, dif_neg (by omega)] at hk
       exact absurd hk (by simp)
     have hF : Fol tk tk' sz sz' o j := ⟨fun i hi => hsame i (by omega), fun i hi => hadj i (by omega), hk, .inl (by rw [(hsame j hj).1]; exact hk), hj, by omega⟩
     have hij : i ≤ j := term_ge 65 _ _ _ _ _ _ ht
     obtain ⟨_, _, h3⟩ := termP_fol hF 65 65 _ _ _ _ _ _ hij ht
     have h4 : termP tk' sz' 65 1200 (o + i) [] = .ok (t, o + j, ns) := by
      rcases h3 with h3 | ⟨h3, _⟩
      ·exact h3
      ·exact absurd (Nat.le_refl _) h3
     obtain ⟨g, rfl⟩ : ∃ g, f' = g + 1 := ⟨f' - 1, by omega⟩
     rw [readC_go (by omega) h4 (by rw [(hsame j hj).1]; exact hk), List.append_assoc]
     exact join_b hlen hsame hadj l0 f (j + 1) _ r g h (by omega) (by omega) (by omega)
    ·rw [readC_no hlt ht hk] at h; cases h
  ·rw [readC_end hlt] at h
   injection h with h
   subst h
   rw [readC_end (by omega)]
theorem bu_l {a b : ByteArray} {i : Nat} (h : i < a.size) : bu (a ++ b) i = bu a i := by rw [bu_append, if_pos h]
theorem bu_r {a b : ByteArray} (i : Nat) : bu (a ++ b) (a.size + i) = bu b i := by rw [bu_append, if_neg (by omega), Nat.add_sub_cancel_left]
theorem read_join {s t : ByteArray} {ra rb rc : Sens} (ha : readN s = .ok ra) (hb : readN t = .ok rb) (hc : readN (s ++ ⟨#[10]⟩ ++ t) = .ok rc) : rc = ra ++ rb := by
 obtain ⟨u, hu⟩ : ∃ u, s ++ ⟨#[10]⟩ ++ t = u := ⟨_, rfl⟩
 rw [hu] at hc
 have lex : ∀ {v : ByteArray} {r : Sens}, readN v = .ok r → ∃ a, lexN v = .ok a ∧ readC a v.size a.length 0 [] = .ok r := fun {v r} h => by
  cases hl : lexN v with
  | bad p e => rw [readN_bad hl] at h; cases h
  | ok a => rw [readN_ok hl] at h; exact ⟨a, rfl, h⟩
 obtain ⟨a, la, ca⟩ := lex ha
 obtain ⟨b, lb, cb⟩ := lex hb
 obtain ⟨c, lc, cc⟩ := lex hc
 have s1 : (⟨#[10]⟩ : ByteArray).size = 1 := rfl
 have hus : u.size = s.size + 1 + t.size := by rw [← hu, ByteArray.size_append, ByteArray.size_append, s1]
 have e1 : ∀ i, i < s.size → bu u i = bu s i := fun i hi => by rw [← hu, bu_l (by rw [ByteArray.size_append]; omega), bu_l hi]
 have e2 : bu u s.size = 10 := by
  rw [← hu, bu_l (by rw [ByteArray.size_append, s1]; omega)]
  have := bu_r (a := s) (b := ⟨#[10]⟩) 0
  rw [Nat.add_zero] at this
  rw [this]
  rfl
 have e3 : ∀ i, bu u (s.size + 1 + i) = bu t i := fun i => by
  have := bu_r (a := s ++ ⟨#[10]⟩) (b := t) i
  rw [ByteArray.size_append, s1, hu] at this
  exact this
 have n2 : (bn u s.size : Int) = 10 := by rw [bn_bu, e2]; rfl
 have A1 : Ahead s u := ⟨⟨by omega, e1, by rw [n2]; rfl⟩, by rw [lineN_stop (by rw [n2]; rfl)]⟩
 have S1 : Alike t u 0 (s.size + 1) t.size := ⟨by omega, by omega, fun i => by rw [Nat.zero_add, e3]⟩
 obtain ⟨h1, _⟩ := lex_toks lc
 obtain ⟨h2, _⟩ := lex_toks la
 obtain ⟨h3, _⟩ := lex_toks lb
 have hb1 : betN u s.size = betN u (s.size + 1) := by rw [betN_eq A1.lt, if_pos A1.blk]
 rw [A1.toks _ 0 [] a (Nat.le_refl _) (Nat.zero_le _) h2, bet_toks A1.lt (by omega) hb1] at h1
 obtain ⟨x, hx, hge, h5⟩ := S1.toks _ 0 [] a c (Nat.le_refl _) (Nat.zero_le _) (fun f _ => by rw [lex_last la (by omega)]; rfl) (by simpa using h1)
 have hlen := (lexN_ok lc).1
 subst hx
 rw [List.length_append] at hlen
 have h6 := h5 (by simp only [List.length_nil]; omega)
 rw [List.nil_append, Nat.add_zero] at h6
 have hbx : b = x.map (Tk.sh 0 (s.size + 1)) := by
  rw [h3] at h6
  injection h6
 have hbl : b.length = x.length := by rw [hbx, List.length_map]
 have key : ∀ i, i < b.length → nxT (a ++ x) u.size (a.length + i) = x.getD i ⟨0, ⟨#[]⟩, 0, 0⟩ ∧ nxT b t.size i = (x.getD i ⟨0, ⟨#[]⟩, 0, 0⟩).sh 0 (s.size + 1) ∧ x.getD i ⟨0, ⟨#[]⟩, 0, 0⟩ ∈ x := fun i hi => by
  have hix : i < x.length := by omega
  have g : x.getD i ⟨0, ⟨#[]⟩, 0, 0⟩ = x[i] := by rw [List.getD_eq_getElem?_getD, List.getElem?_eq_getElem hix]; rfl
  refine ⟨?_, ?_, by rw [g]; exact List.getElem_mem _⟩
  ·rw [nxT, dif_pos (by rw [List.length_append]; omega), g, List.getElem_append_right (by omega)]
   congr 1
   omega
  ·rw [nxT, dif_pos hi, g]
   subst hbx
   rw [List.getElem_map]
 obtain ⟨f2, hf2, hr2⟩ := join_a (x := x) (sz' := u.size) a.length 0 [] ra (a ++ x).length ca (Nat.zero_le _) (by omega) (by omega)
 rw [hr2] at cc
 have hj := join_b (tk := b) (tk' := a ++ x) (sz := t.size) (sz' := u.size) (o := a.length) (by rw [List.length_append]; omega) (fun i hi => by
  obtain ⟨k1, k2, _⟩ := key i hi
  rw [k1, k2]
  exact ⟨rfl, rfl⟩) (fun i hi => by
  obtain ⟨k1, k2, m1⟩ := key i (by omega)
  obtain ⟨k3, k4, m3⟩ := key (i + 1) hi
  rw [Nat.add_assoc, k1, k2, k3, k4]
  have g1 := hge _ m1
  have g3 := hge _ m3
  simp only [Tk.sh]
  omega) ra b.length 0 [] rb f2 cb (Nat.zero_le _) (by omega) (by rw [List.length_append] at hf2 ⊢; omega)
 rw [Nat.add_zero, List.append_nil] at hj
 rw [hj] at cc
 injection cc with cc
 exact cc.symm
end Go.Proofs.YtlogcealmiokkaaGreatDoor
namespace Go.Proofs.YtlogcealmiokkaaGreatDoor
open Go.RowKit
def SenAt (w : World) (g o : Nat) (x : T × List ByteArray) : Prop := ∃ (v0 v1 v2 v3 : Value) (NA : Option Addr) (nc : Nat), w.cell? ⟨g, o, none⟩ = some v0 ∧ w.cell? ⟨g, o + 1, none⟩ = some v1 ∧ w.cell? ⟨g, o + 2, none⟩ = some v2 ∧ w.cell? ⟨g, o + 3, none⟩ = some v3 ∧
 w.cell? ⟨g, o + 4, none⟩ = some (.slice NA x.2.length nc) ∧ TIn w w.heap.size x.1 (.agg #[v0, v1, v2, v3]) ∧ x.1.nodes ≤ 1000 ∧ x.2.length ≤ 1000 ∧
 (0 < x.2.length → ∃ h, NA = some ⟨h, 0, none⟩ ∧ h < w.heap.size ∧ ∀ j y, x.2[j]? = some y → w.cell? ⟨h, j, none⟩ = some (.string y))
def SRw (w : World) (v : Value) (ss : Sens) : Prop := ∃ A c, v = .slice A ss.length c ∧ (0 < ss.length → ∃ g o, A = some ⟨g, o, none⟩ ∧ g < w.heap.size ∧ ∀ i x, ss[i]? = some x → SenAt w g (o + i * 5) x)
set_option maxRecDepth 100000 in
set_option maxHeartbeats 8000000 in
theorem sames_any (ss : Sens) (va vb : Value) (w : World) (ha : SRw w va ss) (hb : SRw w vb ss) (hl : ss.length ≤ 5000) :
 Calls Tryz.prog 11 #[va, vb] w fun e w' => e = .returned (.bool true) ∧ Below w.heap.size w w' := by
 obtain ⟨A, c, rfl, ha⟩ := ha
 obtain ⟨A2, c2, rfl, hb⟩ := hb
 have HA := Lib.hid ha
 have HU := Lib.hid hb
 clear ha hb
 go_enter Tryz.func11, Tryz.ntmps11
 go_wp2_with fail
 go_loopw [5] (fun iv wr => ∃ i : Nat, iv = .int .i64 (i : Int) ∧ i ≤ ss.length ∧ Below w.heap.size w wr) (fun iv _ => ss.length - (intOf iv).toNat)
 case atStart => exact ⟨0, rfl, Nat.zero_le _, Below.refl _ _⟩
 case round =>
  obtain ⟨i, rfl, hi, hb⟩ := hrel
  have WB := Lib.hid hb
  clear hb
  by_cases him : i < ss.length
  ·have him' : (i : Int) < (ss.length : Int) := by omega
   obtain ⟨x, hx⟩ : ∃ x, ss[i]? = some x := ⟨_, List.getElem?_eq_getElem him⟩
   obtain ⟨g, o, rfl, hg, hsa⟩ := HA.out (by omega)
   obtain ⟨g2, o2, rfl, hg2, hsb⟩ := HU.out (by omega)
   obtain ⟨v0, v1, v2, v3, NA, nc, a0, a1, a2, a3, a4, hta, hnd, hnl, hna⟩ := hsa i x hx
   obtain ⟨u0, u1, u2, u3, NB, nd, b0, b1, b2, b3, b4, htb, _, _, hnb⟩ := hsb i x hx
   have HNA := Lib.hid hna
   have HNB := Lib.hid hnb
   have KP := Lib.hid (show ∀ W, Below w.heap.size w W → W.cell? ⟨g, o + i * 5, none⟩ = some v0 ∧ W.cell? ⟨g, o + i * 5 + 1, none⟩ = some v1 ∧ W.cell? ⟨g, o + i * 5 + 2, none⟩ = some v2 ∧ W.cell? ⟨g, o + i * 5 + 3, none⟩ = some v3 ∧ W.cell? ⟨g, o + i * 5 + 4, none⟩ = some (.slice NA x.2.length nc) ∧
    W.cell? ⟨g2, o2 + i * 5, none⟩ = some u0 ∧ W.cell? ⟨g2, o2 + i * 5 + 1, none⟩ = some u1 ∧ W.cell? ⟨g2, o2 + i * 5 + 2, none⟩ = some u2 ∧ W.cell? ⟨g2, o2 + i * 5 + 3, none⟩ = some u3 ∧ W.cell? ⟨g2, o2 + i * 5 + 4, none⟩ = some (.slice NB x.2.length nd) from fun W k =>
    ⟨(k.cell (p := ⟨g, _, none⟩) hg).trans a0, (k.cell (p := ⟨g, _, none⟩) hg).trans a1, (k.cell (p := ⟨g, _, none⟩) hg).trans a2, (k.cell (p := ⟨g, _, none⟩) hg).trans a3, (k.cell (p := ⟨g, _, none⟩) hg).trans a4,
      (k.cell (p := ⟨g2, _, none⟩) hg2).trans b0, (k.cell (p := ⟨g2, _, none⟩) hg2).trans b1, (k.cell (p := ⟨g2, _, none⟩) hg2).trans b2, (k.cell (p := ⟨g2, _, none⟩) hg2).trans b3, (k.cell (p := ⟨g2, _, none⟩) hg2).trans b4⟩)
   have k0 := WB.out.drew
   have hw := WB.out.size
   have CI := Lib.hid (same_any x.1 _ _ wr.drew ((hta.below k0).more (show w.heap.size ≤ wr.drew.heap.size from hw)) ((htb.below k0).more (show w.heap.size ≤ wr.drew.heap.size from hw)) (by omega))
   have hgl : g < wr.heap.size := by omega
   have hgl2 : g2 < wr.heap.size := by omega
   clear hsa hsb a0 a1 a2 a3 a4 b0 b1 b2 b3 b4 hta htb hna hnb hx
   go_wp2_with fail
   go_region_held3 (fun W => W.cell? ⟨g, o + i * 5, none⟩ = some v0 ∧ W.cell? ⟨g, o + i * 5 + 1, none⟩ = some v1 ∧ W.cell? ⟨g, o + i * 5 + 2, none⟩ = some v2 ∧ W.cell? ⟨g, o + i * 5 + 3, none⟩ = some v3 ∧ W.cell? ⟨g, o + i * 5 + 4, none⟩ = some (.slice NA x.2.length nc) ∧
    W.cell? ⟨g2, o2 + i * 5, none⟩ = some u0 ∧ W.cell? ⟨g2, o2 + i * 5 + 1, none⟩ = some u1 ∧ W.cell? ⟨g2, o2 + i * 5 + 2, none⟩ = some u2 ∧ W.cell? ⟨g2, o2 + i * 5 + 3, none⟩ = some u3 ∧ W.cell? ⟨g2, o2 + i * 5 + 4, none⟩ = some (.slice NB x.2.length nd))
    (first | (with_reducible exact KP.out _ k0) | (with_reducible exact KP.out _ k5))
    (((with_reducible refine CI.out.mono ?_); rintro e w5 ⟨rfl, h5⟩; have k5 := k0.trans (h5.mono (show w.heap.size ≤ wr.drew.heap.size from hw))))
   have K5 := Lib.hid k5
   clear h5 k5 k0 CI
   go_wp2_with fail
   go_loopw [6] (fun kv wr => ∃ k : Nat, kv = .int .i64 (k : Int) ∧ k ≤ x.2.length ∧ Below w.heap.size w wr) (fun kv _ => x.2.length - (intOf kv).toNat)
   case atStart => exact ⟨0, rfl, Nat.zero_le _, K5.out⟩
   case round =>
    obtain ⟨k, rfl, hk, hb⟩ := hrel
    have WC := Lib.hid hb
    obtain ⟨_, _, _, _, a4, _, _, _, _, b4⟩ := KP.out _ hb
    have hs5 := hb.size
    clear hb
    by_cases hkm : k < x.2.length
    ·have hkm' : (k : Int) < (x.2.length : Int) := by omega
     obtain ⟨h, rfl, hh, hc⟩ := HNA.out (by omega)
     obtain ⟨h2, rfl, hh2, hc2⟩ := HNB.out (by omega)
     obtain ⟨y, hy⟩ : ∃ y, x.2[k]? = some y := ⟨_, List.getElem?_eq_getElem hkm⟩
     have z1 := (WC.out.cell (p := ⟨h, k, none⟩) hh).trans (hc k y hy)
     have z2 := (WC.out.cell (p := ⟨h2, k, none⟩) hh2).trans (hc2 k y hy)
     have l1 : g < wr.heap.size := by omega
     have l2 : g2 < wr.heap.size := by omega
     have l3 : h < wr.heap.size := by omega
     have l4 : h2 < wr.heap.size := by omega
     have hyy : (y.toList == y.toList) = true := beq_self_eq_true _
     clear hc hc2 hy
     go_wp2_with fail
     go_region
     all_goals
      go_wp2_with fail
      go_roundw
      case rel => exact ⟨k + 1, by go_num, hkm, WC.out.drew⟩
      case measure => simp [intOf]; omega
    ·obtain rfl : k = x.2.length := by omega
     go_wp2_with fail
     go_roundw
     case rel => exact ⟨i + 1, by go_num, him, WC.out⟩
     case measure => simp [intOf]; omega
  ·obtain rfl : i = ss.length := by omega
   go_wp2_with fail
   go_ret
   exact ⟨rfl, WB.out⟩
end Go.Proofs.YtlogcealmiokkaaGreatDoor
namespace Go.Proofs.YtlogcealmiokkaaGreatDoor
open Go.RowKit
theorem wpList_append_at {P : Program} (w : World) {ops : Array Oper} {rest : List Oper} {o : Oper} {a : Act} {Q : Exit → Act → World → Prop} (hgd : o.guard = none) (s x : Operand) (t : TypeId)
 (ho : o.op = .call { callee := .builtin .append, args := #[s, x], argTypes := #[t, t] })
 {e : TypeId} {z : Value} {size bytes : Nat} (E : El P t e z size bytes) (base : Nat)
 (v : Value) (n : Nat) (xs : List Value) (hs : a.eval s = v) (hown : w.ownsRow base e size v n xs)
 (A : Option Addr) (m c : Nat) (us : List Value) (hx : a.eval x = .slice A m c) (hA : A = none → c = 0) (hmc : m ≤ c) (hl : us.length = m * size)
 (hu : 0 < m → ∃ b off, A = some ⟨b, off, none⟩ ∧ ∀ j u, us[j]? = some u → w.cell? ⟨b, off + j, none⟩ = some u) (h1 : ∀ u ∈ us, u.oneCell' = true)
 (hn : (n + m) * bytes ≤ 140737488355328) (hm : n + m ≤ maxLen) (hbase : base ≤ w.heap.size)
 (h : ∀ v' w', w'.ownsRow base e size v' (n + m) (xs ++ us) → w.grownBy w' v.ownBlock → (v'.ownBlock = v.ownBlock ∨ v'.ownBlock = some w.heap.size) → wpList P ops Q rest (a.put o.dst v') w') : wpList P ops Q (o :: rest) a w := by
 obtain ⟨i, hi, hz, hsz, hby⟩ := E.hi
 rcases A with _ | ad
 ·have hc := hA rfl
  subst hc
  obtain rfl : m = 0 := by omega
  have hus : us = [] := List.eq_nil_of_length_eq_zero (by omega)
  subst hus
  exact wpList_append_own_none hgd s x t ho base e i size E.ht hi v n xs hs hown hx (h v w (by simpa using hown) (World.grownBy.refl w _) (.inl rfl))
 ·refine wpList_append_own_at w hgd s x t ho base e i z size bytes E.ht hi hz hsz hby E.hzs E.pos v n xs hs hown ad m c us hx hl ?_ h1 hm hn hbase fun v' w' h2 h3 _ h4 => h v' w' h2 h3 h4
  intro j u hj
  rcases Nat.eq_zero_or_pos m with h0 | h0
  ·subst h0
   have hus : us = [] := List.eq_nil_of_length_eq_zero (by omega)
   subst hus
   simp at hj
  ·obtain ⟨b, off, he, hc⟩ := hu h0
   injection he with he
   subst he
   have := hc j u hj
   unfold Addr.add
   split
   ·rename_i h0; subst h0; exact this
   ·simpa using this
theorem elSen : El Tryz.prog 22 34 (.agg #[.int .i64 0, .int .i64 0, .string ⟨#[]⟩, .slice none 0 0, .slice none 0 0]) 5 80 := by
 obtain ⟨i0, hi, hz0, hz1, hz2⟩ := info_parts Tryz.info_sen
 exact ⟨Tryz.underlying22, ⟨i0, hi, hz0, hz1, hz2⟩, rfl, by omega⟩
theorem SenR.more {w : World} {lo lo' : Nat} {xs : List Value} {ss : Sens} (h : SenR w lo xs ss) (hl : lo' ≤ lo) : SenR w lo' xs ss := fun k x hx => by
 obtain ⟨k0, k1, k2, A, m, cc, NA, nc, h0, h1, h2, h3, h4, ht, hg, hn, hl', ho⟩ := h k x hx
 exact ⟨k0, k1, k2, A, m, cc, NA, nc, h0, h1, h2, h3, h4, ht.more fun b hb => Nat.le_trans hl hb, hg, hn, hl', ownsRow_more ho hl⟩
theorem SenR.app {w : World} {lo : Nat} {xs ys : List Value} {ss tt : Sens} (h : SenR w lo xs ss) (h' : SenR w lo ys tt) (hl : xs.length = 5 * ss.length) : SenR w lo (xs ++ ys) (ss ++ tt) := fun k x hx => by
 by_cases hk : k < ss.length
 ·rw [List.getElem?_append_left hk] at hx
  obtain ⟨k0, k1, k2, A, m, cc, NA, nc, h0, h1, h2, h3, h4, hr⟩ := h k x hx
  exact ⟨k0, k1, k2, A, m, cc, NA, nc, (List.getElem?_append_left (by omega)).trans h0, (List.getElem?_append_left (by omega)).trans h1, (List.getElem?_append_left (by omega)).trans h2, (List.getElem?_append_left (by omega)).trans h3, (List.getElem?_append_left (by omega)).trans h4, hr⟩
 ·rw [List.getElem?_append_right (by omega)] at hx
  obtain ⟨k0, k1, k2, A, m, cc, NA, nc, h0, h1, h2, h3, h4, hr⟩ := h' (k - ss.length) x hx
  have e : ∀ q, (xs ++ ys)[5 * k + q]? = ys[5 * (k - ss.length) + q]? := fun q => by
   rw [List.getElem?_append_right (by omega)]
   congr 1
   omega
  exact ⟨k0, k1, k2, A, m, cc, NA, nc, (e 0).trans h0, (e 1).trans h1, (e 2).trans h2, (e 3).trans h3, (e 4).trans h4, hr⟩
theorem SenR.small {w : World} {lo : Nat} {xs : List Value} {ss : Sens} (h : SenR w lo xs ss) (hl : xs.length = 5 * ss.length) : ∀ u ∈ xs, u.oneCell' = true := by
 intro u hu
 obtain ⟨i, hi, rfl⟩ := List.getElem_of_mem hu
 have hk : i / 5 < ss.length := by omega
 obtain ⟨k0, k1, k2, A, m, cc, NA, nc, h0, h1, h2, h3, h4, _⟩ := h (i / 5) _ (List.getElem?_eq_getElem hk)
 have hm : i % 5 = 0 ∨ i % 5 = 1 ∨ i % 5 = 2 ∨ i % 5 = 3 ∨ i % 5 = 4 := by omega
 have key : ∀ q v, i % 5 = q → xs[5 * (i / 5) + q]? = some v → xs[i] = v := fun q v hq hv => by
  have e : 5 * (i / 5) + q = i := by omega
  rw [e, List.getElem?_eq_getElem hi] at hv
  injection hv
 rcases hm with hm | hm | hm | hm | hm
 ·rw [key 0 _ hm h0]; rfl
 ·rw [key 1 _ hm h1]; rfl
 ·rw [key 2 _ hm h2]; rfl
 ·rw [key 3 _ hm h3]; rfl
 ·rw [key 4 _ hm h4]; rfl
theorem SenR.row {w : World} {lo B : Nat} {v : Value} {xs : List Value} {ss : Sens} (h : SenR w lo xs ss) (ho : w.ownsRow B 34 5 v ss.length xs) : SRw w v ss := by
 obtain ⟨A, c, rfl, _, _, _, hx⟩ := own_open ho
 refine ⟨A, c, rfl, fun h0 => ?_⟩
 obtain ⟨g, cur, rfl, _, hh, hcur⟩ := hx h0
 refine ⟨g, 0, rfl, heap_lt hh, fun i x hi => ?_⟩
 have hil : i < ss.length := (List.getElem?_eq_some_iff.1 hi).1
 obtain ⟨k0, k1, k2, A2, m, cc, NA, nc, h0, h1, h2, h3, h4, ht, _, hn, hl, hnm⟩ := h i x hi
 have hat : ∀ j v, j < 5 → xs[5 * i + j]? = some v → w.cell? ⟨g, 0 + i * 5 + j, none⟩ = some v := fun j v hj hv => by
  rw [Nat.zero_add, Nat.mul_comm i 5]
  exact ((cell_of_row _ _ _ _ _ _ hh).trans (hcur _ (by omega))).trans hv
 refine ⟨_, _, _, _, NA, nc, hat 0 _ (by omega) h0, hat 1 _ (by omega) h1, hat 2 _ (by omega) h2, hat 3 _ (by omega) h3, hat 4 _ (by omega) h4, ht.tin, hn, hl, fun hp => ?_⟩
 obtain ⟨NA', nc', e, _, _, _, hnx⟩ := own_open hnm
 injection e with e1 _ e2
 subst e1 e2
 obtain ⟨gn, curn, rfl, _, hhn, hcn⟩ := hnx hp
 exact ⟨gn, rfl, heap_lt hhn, fun j y hy => (cell_of_row _ _ _ _ _ _ hhn).trans ((hcn j (by have := (List.getElem?_eq_some_iff.1 hy).1; omega)).trans (by rw [List.getElem?_map, hy]; rfl))⟩
theorem SenR.below {w w' : World} {lo : Nat} {xs : List Value} {ss : Sens} (h : SenR w lo xs ss) (hb : Below w.heap.size w w') : SenR w' lo xs ss := h.keep fun b _ _ _ hh _ => (hb.block b (heap_lt hh)).trans hh
theorem SenR.grown {w w' : World} {lo B n : Nat} {v : Value} {xs ys : List Value} {ss : Sens} (h : SenR w lo xs ss) (hg : w.grownBy w' v.ownBlock) (ho : w.ownsRow B 34 5 v n ys) : SenR w' lo xs ss :=
 h.keep fun b _ t _ hh ht => (hg.block b (heap_lt hh) (own_ne5 ho hh (by rcases ht with rfl | rfl <;> decide))).trans hh
theorem own_cells {w : World} {B n : Nat} {A : Option Addr} {c : Nat} {xs : List Value} {m : Nat} (h : w.ownsRow B 34 5 (.slice A m c) n xs) : m = n ∧ m ≤ c ∧ (A = none → c = 0) ∧ xs.length = m * 5 ∧ (0 < m → ∃ b off, A = some ⟨b, off, none⟩ ∧ ∀ j u, xs[j]? = some u → w.cell? ⟨b, off + j, none⟩ = some u) := by
 have hl := own_len h
 obtain ⟨A', c', e, hc, hA, _, hx⟩ := own_open h
 injection e with e1 e2 e3
 subst e1 e2 e3
 refine ⟨rfl, hc, hA, by omega, fun h0 => ?_⟩
 obtain ⟨g, cur, rfl, _, hh, hcur⟩ := hx h0
 refine ⟨g, 0, rfl, fun j u hj => ?_⟩
 rw [Nat.zero_add]
 exact ((cell_of_row _ _ _ _ _ _ hh).trans (hcur _ (by have := (List.getElem?_eq_some_iff.1 hj).1; omega))).trans hj
def erN (s : ByteArray) : Int := match readN s with
 | .ok _ => 0
 | .error (_, e) => e
theorem rq_er {s : ByteArray} {w w' : World} {v : Value} {p er : Int} (h : ReadQ s w v p er w') : er = erN s := by
 unfold ReadQ at h
 unfold erN
 cases hr : readN s with
 | ok l => rw [hr] at h; exact h.2.1
 | error e => rw [hr] at h; exact h.2.1
theorem rp_er {s : ByteArray} {B : Nat} {w' : World} {v : Value} {p er : Int} (h : ReadPQ s B w' v p er) : er = erN s ∧ ∃ A n c, v = .slice A n c ∧ (erN s ≠ 0 → n = 0) := by
 unfold ReadPQ at h
 unfold erN
 cases hr : readN s with
 | ok l =>
  rw [hr] at h
  obtain ⟨_, h2, xs, h3, _⟩ := h
  obtain ⟨A, c, e, _⟩ := own_open h3
  exact ⟨h2, A, _, c, e, fun hn => absurd rfl hn⟩
 | error e =>
  rw [hr] at h
  exact ⟨h.2.2.1, none, 0, 0, h.1, fun _ => rfl⟩
theorem rp_ok {s : ByteArray} {B : Nat} {w' : World} {v : Value} {p er : Int} (h : ReadPQ s B w' v p er) (h0 : erN s = 0) : ∃ ss xs, readN s = .ok ss ∧ w'.ownsRow B 34 5 v ss.length xs ∧ SenR w' B xs ss ∧ ss.length ≤ 1000 := by
 unfold ReadPQ at h
 unfold erN at h0
 cases hr : readN s with
 | ok l =>
  rw [hr] at h
  obtain ⟨_, _, xs, h3, h4, h5⟩ := h
  exact ⟨l, xs, rfl, h3, h4, h5⟩
 | error e =>
  obtain ⟨p, e⟩ := e
  rw [hr] at h h0
  exact absurd (h.2.2.1.trans h0) h.2.2.2
set_option maxRecDepth 100000 in
set_option maxHeartbeats 8000000 in
theorem readjoined_any (s t : ByteArray) (w : World) (h : Bs w) : Calls Tryz.prog 3 #[.string s, .string t] w fun e w' => e = .returned (.bool true) ∧ Below w.heap.size w w' := by
 have HB := Lib.hid h
 by_cases hbs : (1024 : Int) < (s.size : Int)
 ·go_enter Tryz.func3, Tryz.ntmps3
  go_wp2_with fail
  go_ret
  exact ⟨rfl, Below.refl _ _⟩
 by_cases hbt : (1024 : Int) < (t.size : Int)
 ·go_enter Tryz.func3, Tryz.ntmps3
  go_wp2_with fail
  go_ret
  exact ⟨rfl, Below.refl _ _⟩
 have hs1 : s.size ≤ 1024 := by omega
 have ht1 : t.size ≤ 1024 := by omega
 have C1 := Lib.hid (HB.out.read s)
 clear h
 obtain ⟨es, hes⟩ : ∃ e, erN s = e := ⟨_, rfl⟩
 obtain ⟨et, het⟩ : ∃ e, erN t = e := ⟨_, rfl⟩
 have HES := Lib.hid hes
 have HET := Lib.hid het
 clear hes het
 go_enter Tryz.func3, Tryz.ntmps3
 go_wp2_with fail
 refine C1.out.mono ?_
 rintro e w1 ⟨⟨v1, p1, e1, rfl, hq1⟩, hb1⟩
 obtain ⟨rfl, A1, n1, c1, rfl, hn1⟩ := rp_er hq1
 rw [HES.out] at hq1 hn1 ⊢
 have HQ1 := Lib.hid hq1
 have B1 := Lib.hid hb1
 have C2 := Lib.hid ((HB.out.below hb1).read t)
 clear hq1 hb1 C1
 go_wp2_with fail
 refine C2.out.mono ?_
 rintro e w2 ⟨⟨v2, p2, e2, rfl, hq2⟩, hb2⟩
 obtain ⟨rfl, A2, n2, c2, rfl, hn2⟩ := rp_er hq2
 rw [HET.out] at hq2 hn2 ⊢
 have HQ2 := Lib.hid hq2
 have K2 := Lib.hid hb2
 clear hq2 hb2 C2
 go_wp2_with fail
 refine (readx_any s _).mono ?_
 rintro e w3 ⟨⟨v3, p3, e3, rfl, hq3⟩, hb3⟩
 obtain rfl := rq_er hq3
 rw [HES.out]
 have K3 := Lib.hid (K2.out.trans (hb3.mono K2.out.size))
 have J3 := Lib.hid hb3
 clear hq3 hb3
 go_wp2_with fail
 refine (readx_any t _).mono ?_
 rintro e w4 ⟨⟨v4, p4, e4, rfl, hq4⟩, hb4⟩
 obtain rfl := rq_er hq4
 rw [HET.out]
 have K4 := Lib.hid (K3.out.trans (hb4.mono K3.out.size))
 have J4 := Lib.hid (J3.out.trans (hb4.mono J3.out.size))
 have B4 := Lib.hid (B1.out.trans (K4.out.mono B1.out.size))
 clear hq4 hb4
 have hss : (es != es) = false := by simp
 have htt : (et != et) = false := by simp
 by_cases he : es = 0
 ·subst he
  by_cases hf : et = 0
  ·subst hf
   obtain ⟨u, hu⟩ : ∃ u, s ++ ⟨#[10]⟩ ++ t = u := ⟨_, rfl⟩
   have HU := Lib.hid hu
   obtain ⟨eu, heu⟩ : ∃ e, erN u = e := ⟨_, rfl⟩
   have HEU := Lib.hid heu
   clear hu heu
   go_wp2_with fail
   rw [HU.out]
   refine ((HB.out.below B4.out).read u).mono ?_
   rintro e w5 ⟨⟨v5, p5, e5, rfl, hq5⟩, hb5⟩
   obtain ⟨rfl, A5, n5, c5, rfl, hn5⟩ := rp_er hq5
   rw [HEU.out] at hq5 hn5 ⊢
   have HQ5 := Lib.hid hq5
   have J5 := Lib.hid hb5
   clear hq5 hb5
   go_wp2_with fail
   rw [HU.out]
   refine (readx_any u _).mono ?_
   rintro e w6 ⟨⟨v6, p6, e6, rfl, hq6⟩, hb6⟩
   obtain rfl := rq_er hq6
   rw [HEU.out]
   have J6 := Lib.hid hb6
   have B6 := Lib.hid (B4.out.trans ((J5.out.trans (hb6.mono J5.out.size)).mono B4.out.size))
   clear hq6 hb6
   by_cases hg : eu = 0
   ·subst hg
    obtain ⟨ra, xa, hra, owa, sra, hla⟩ := rp_ok HQ1.out HES.out
    obtain ⟨rb, xb, hrb, owb, srb, hlb⟩ := rp_ok HQ2.out HET.out
    obtain ⟨rc, xc, hrc, owc, src, hlc⟩ := rp_ok HQ5.out HEU.out
    obtain rfl : rc = ra ++ rb := read_join hra hrb (by rw [HU.out]; exact hrc)
    have J56 := J5.out.trans (J6.out.mono J5.out.size)
    have K16 := K4.out.trans (J56.mono K4.out.size)
    have K26 := J4.out.trans (J56.mono J4.out.size)
    have OA := Lib.hid (own_below owa K16)
    have OB := Lib.hid (own_below owb K26)
    have OC := Lib.hid (own_below owc J6.out)
    have SA := Lib.hid ((sra.below K16).more (Nat.zero_le _))
    have SB := Lib.hid ((srb.below K26).more (Nat.zero_le _))
    have SC := Lib.hid ((src.below J6.out).more (Nat.zero_le _))
    have B7 := Lib.hid ((Below.refl w6.heap.size w6).alloc (Nat.le_refl _) (Obj.cells #[] 34))
    have O7 := Lib.hid (show (w6.alloc (Obj.cells #[] 34)).ownsRow w6.heap.size 34 5 (.slice (some ⟨w6.heap.size, 0, none⟩) 0 0) 0 [] from ⟨rfl, .inr ⟨w6.heap.size, 0, #[], rfl, Nat.le_refl _, heap_alloc_new _ _, Nat.le_refl _, by unfold maxLen; omega, rfl, rfl⟩⟩)
    obtain ⟨rfl, hc1, hA1, hx1, hcl1⟩ := own_cells (own_below OA.out B7.out)
    have hsm1 := SA.out.small (by omega)
    clear hra hrb hrc owa owb owc sra srb src J56 K16 K26 hn1 hn2 hn5
    go_wp2_with (at_builtin; go_must (refine wpList_append_at _ rfl _ _ _ rfl elSen w6.heap.size _ 0 [] rfl O7.out A1 ra.length c1 xa rfl hA1 hc1 hx1 hcl1 hsm1 (by omega) (by unfold maxLen; omega) (by simp) ?_))
    intro v8 w8 hown8 hg8 _
    have hown8 : w8.ownsRow w6.heap.size 34 5 v8 ra.length xa := by simpa using hown8
    have B8 := Lib.hid (B7.out.grown hg8 (by simp) (fun k hk => by simp [Value.ownBlock] at hk; omega))
    have O8 := Lib.hid hown8
    obtain ⟨A8, c8, rfl, _⟩ := own_open hown8
    obtain ⟨rfl, hc2, hA2, hx2, hcl2⟩ := own_cells (own_below OB.out B8.out)
    have hsm2 := SB.out.small (by omega)
    have hws := B8.out.size
    clear hown8 hg8 hcl1 hsm1
    go_wp2_with (at_builtin; go_must (refine wpList_append_at _ rfl _ _ _ rfl elSen w6.heap.size _ ra.length xa rfl O8.out A2 rb.length c2 xb rfl hA2 hc2 hx2 hcl2 hsm2 (by omega) (by unfold maxLen; omega) hws ?_))
    intro v9 w9 hown9 hg9 _
    have B9 := Lib.hid (B8.out.grown hg9 hws (fun k hk => (O8.out.lt k hk).1))
    have RV := Lib.hid (SenR.row (v := v9) (B := w6.heap.size) ((SA.out.below B9.out).app (SB.out.below B9.out) (by omega)) (by rw [List.length_append]; exact hown9))
    have RC := Lib.hid (SenR.row (SC.out.below B9.out) (own_below OC.out B9.out))
    have CS := Lib.hid (sames_any _ _ _ w9 RC.out RV.out (by rw [List.length_append]; omega))
    have BZ := Lib.hid (B6.out.trans (B9.out.mono B6.out.size))
    clear hown9 hg9 hcl2 hsm2
    go_wp2_with fail
    refine CS.out.mono ?_
    rintro e wz ⟨rfl, hbz⟩
    have BF := Lib.hid (BZ.out.trans (hbz.mono BZ.out.size))
    clear hbz
    go_wp2_with fail
    go_ret
    exact ⟨rfl, BF.out⟩
   ·have hg1 : (eu != 0) = true := by simpa using hg
    have hg2 : (eu == eu) = true := beq_self_eq_true _
    go_wp2_with fail
    go_ret
    exact ⟨rfl, B6.out⟩
  ·have hf1 : (et != 0) = true := by simpa using hf
   by_cases h0 : n1 = 0
   ·subst h0
    go_wp2_with fail
    go_ret
    exact ⟨rfl, B4.out⟩
   ·have h01 : ((n1 : Int) == 0) = false := by simpa using h0
    go_wp2_with fail
    go_ret
    exact ⟨rfl, B4.out⟩
 ·have he1 : (es != 0) = true := by simpa using he
  obtain rfl := hn1 he
  go_wp2_with fail
  go_ret
  exact ⟨rfl, B4.out⟩
end Go.Proofs.YtlogcealmiokkaaGreatDoor
