/- Unification on plain terms: bindings, what a term stands for, whether a variable is within it; no program in sight. Unification on plain terms: one pair; a stack of pairs. Maps from integers to values, as the call itself made them: what is at a key, by a function. What the walks over terms and bindings share: what a call leaves alone, a term's arguments, the map of what was gone into. Terms' blocks through a call that leaves them alone. The reference's bindings in memory; the walks through coneyref08.find, coneyref08.walk. The walk through coneyref08.walk. The reference's reach: plain laws of the sets of variables that it gathers. The walk through coneyref08.reach. -/
import Derived.Test.YtgoedlbdnmhppaaRd6
import Derived.Test.YtgoedlbdnmhppaaRd4
import Derived.Test.YtgoedlbdnmhppaaRow
import Derived.WalkKit
import Derived.Lib.Hide
import Derived.Below
import Derived.Maps.Own
import Derived.Maps.OwnSet
import Derived.Maps.Views
import Derived.Deep.RegionLaw
import Derived.Deep.RegionHeld3
import Derived.Deep.QuietTactic
import Derived.BigQuiet
namespace Go.Proofs.Ytgoedlbdnmhppaa
open Go.RowKit

abbrev Bs := List (Int × T)
def findB : Bs → Int → Option T
  | [], _ => none
  | (k, x) :: L, n => if k = n then some x else findB L n
def T.var? : T → Option Int
  | .nil => none
  | .mk k n _ _ _ => if k = 1 then some n else none
/-- Has a term this variable in it? -/
def T.hasV (v : Int) : T → Prop
  | .nil => False
  | .mk k n _ m a => (k = 1 ∧ n = v) ∨ (k = 4 ∧ ∃ i, i < m ∧ (a i).hasV v)
/-- A term as a text tells it, of at most 1000 parts. -/
def T.ok (t : T) : Prop := t.good ∧ t.nodes ≤ 1000
theorem sumTo_ge0 (n : Nat) (f : Nat → Nat) (i : Nat) (hi : i < n) : f i ≤ sumTo n f := by
  induction n with
  | zero => omega
  | succ n ih =>
    simp only [sumTo]
    rcases Nat.lt_or_ge i n with h | h
    · have := ih h; omega
    · obtain rfl : i = n := by omega
      omega
theorem T.ok.arg {k n : Int} {s : ByteArray} {m : Nat} {a : Nat → T} (h : (T.mk k n s m a).ok) {i : Nat} (hi : i < m) : (a i).ok :=
  ⟨h.1.2 i hi, by have := sumTo_ge0 m (fun i => (a i).nodes) i hi; have h2 := h.2; simp only [T.nodes] at h2; omega⟩
theorem T.good.pos : ∀ {t : T}, t.good → 0 < t.nodes
  | .nil, h => h.elim
  | .mk _ _ _ _ _, _ => by simp only [T.nodes]; omega
theorem sumTo_ones0 (n : Nat) (f : Nat → Nat) (h : ∀ i, i < n → 0 < f i) : n ≤ sumTo n f := by
  induction n with
  | zero => omega
  | succ n ih =>
    have := ih fun i hi => h i (by omega)
    have := h n (by omega)
    simp only [sumTo]
    omega
theorem T.ok.few {k n : Int} {s : ByteArray} {m : Nat} {a : Nat → T} (h : (T.mk k n s m a).ok) : m < 1000 := by
  have := sumTo_ones0 m (fun i => (a i).nodes) fun i hi => (h.1.2 i hi).pos
  have h2 := h.2
  simp only [T.nodes] at h2
  omega
theorem T.ok.var {k n : Int} {s : ByteArray} {m : Nat} {a : Nat → T} (h : (T.mk k n s m a).ok) (hk : k = 1) : 0 ≤ n ∧ n < 1000 ∧ s = ⟨#[]⟩ ∧ m = 0 := by
  rcases h.1.1 with h | h | h | h
  · exact ⟨h.2.1, h.2.2.1, h.2.2.2.1, h.2.2.2.2⟩
  all_goals omega
theorem T.ok.plain {k n : Int} {s : ByteArray} {m : Nat} {a : Nat → T} (h : (T.mk k n s m a).ok) (hk : k ≠ 4) : m = 0 := by
  rcases h.1.1 with h | h | h | h
  · exact h.2.2.2.2
  · exact h.2.2.2
  · exact h.2.2.2
  · omega

/-- Bindings as they come about: each variable once; no variable within what it is bound to. -/
structure EnvOk (L : Bs) : Prop where
  nd : (L.map Prod.fst).Nodup
  ok : ∀ p ∈ L, 0 ≤ p.1 ∧ p.1 < 1000 ∧ p.2.ok
  acyc : ∃ r : Int → Nat, ∀ p ∈ L, ∀ v, p.2.hasV v → r v < r p.1
theorem EnvOk.nil : EnvOk [] := ⟨List.Pairwise.nil, fun _ h => absurd h List.not_mem_nil, fun _ => 0, fun _ h => absurd h List.not_mem_nil⟩
theorem findB_mem {L : Bs} {n : Int} {x : T} (h : findB L n = some x) : (n, x) ∈ L := by
  induction L with
  | nil => cases h
  | cons p L ih =>
    obtain ⟨k, y⟩ := p
    unfold findB at h
    split at h
    · rename_i e; injection h with h; subst e; subst h; exact List.mem_cons_self
    · exact List.mem_cons_of_mem _ (ih h)
theorem findB_none {L : Bs} {n : Int} (h : findB L n = none) : ∀ p ∈ L, p.1 ≠ n := by
  induction L with
  | nil => intro p hp; cases hp
  | cons q L ih =>
    obtain ⟨k, y⟩ := q
    unfold findB at h
    split at h
    · cases h
    · rename_i e
      intro p hp
      rcases List.mem_cons.mp hp with rfl | hp
      · exact e
      · exact ih h p hp
theorem findB_of_mem {L : Bs} (hnd : (L.map Prod.fst).Nodup) {k : Int} {x : T} (h : (k, x) ∈ L) : findB L k = some x := by
  induction L with
  | nil => exact absurd h List.not_mem_nil
  | cons q L ih =>
    obtain ⟨k', y⟩ := q
    rw [List.map_cons, List.nodup_cons] at hnd
    unfold findB
    rcases List.mem_cons.mp h with e | h
    · injection e with e1 e2; subst e1; subst e2; simp
    · have hne : k' ≠ k := fun e => hnd.1 (List.mem_map.mpr ⟨_, h, e.symm⟩)
      rw [if_neg hne]
      exact ih hnd.2 h
theorem findB_append (L : Bs) (n : Int) (t : T) (m : Int) : findB (L ++ [(n, t)]) m = match findB L m with | some x => some x | none => if n = m then some t else none := by
  induction L with
  | nil => simp [findB]
  | cons p L ih =>
    obtain ⟨k, y⟩ := p
    simp only [List.cons_append, findB]
    by_cases e : k = m
    · simp [e]
    · simp only [if_neg e]; exact ih
theorem EnvOk.find {L : Bs} (h : EnvOk L) {n : Int} {x : T} (hf : findB L n = some x) : 0 ≤ n ∧ n < 1000 ∧ x.ok := h.ok _ (findB_mem hf)

/-! What a term stands for. -/
def stepW (L : Bs) (t : T) : T := match t.var? with
  | some n => (match findB L n with | some x => x | none => t)
  | none => t
def walkF (L : Bs) : Nat → T → T
  | 0, t => t
  | j + 1, t => stepW L (walkF L j t)
def doneW (L : Bs) (t : T) : Prop := ∀ n, t.var? = some n → findB L n = none
theorem stepW_done {L : Bs} {t : T} (h : doneW L t) : stepW L t = t := by
  unfold stepW
  split
  · rename_i n hn; rw [h n hn]
  · rfl
theorem walkF_more {L : Bs} {t : T} {i : Nat} (h : doneW L (walkF L i t)) : ∀ j, i ≤ j → walkF L j t = walkF L i t := by
  intro j hj
  induction j with
  | zero => obtain rfl : i = 0 := by omega
            rfl
  | succ j ih =>
    rcases Nat.lt_or_ge j i with h1 | h1
    · obtain rfl : i = j + 1 := by omega
      rfl
    · simp only [walkF]; rw [ih h1]; exact stepW_done h
theorem walkF_comm (L : Bs) (t : T) : ∀ j, walkF L (j + 1) t = walkF L j (stepW L t) := by
  intro j
  induction j with
  | zero => rfl
  | succ j ih => simp only [walkF] at ih ⊢; rw [ih]
def cntR (L : Bs) (r : Int → Nat) (k : Nat) : Nat := (L.filter fun p => decide (r p.1 < k)).length
theorem cntR_le (L : Bs) (r : Int → Nat) (k : Nat) : cntR L r k ≤ L.length := List.length_filter_le _ _
theorem cntR_mono (L : Bs) (r : Int → Nat) {k k' : Nat} (h : k ≤ k') : cntR L r k ≤ cntR L r k' := by
  unfold cntR
  induction L with
  | nil => simp
  | cons p L ih =>
    simp only [List.filter_cons]
    by_cases h1 : r p.1 < k
    · have h2 : r p.1 < k' := by omega
      simp [h1, h2]; exact ih
    · by_cases h2 : r p.1 < k'
      · simp [h1, h2]; omega
      · simp [h1, h2]; exact ih
theorem cntR_lt (L : Bs) (r : Int → Nat) {p : Int × T} (hp : p ∈ L) : cntR L r (r p.1) < cntR L r (r p.1 + 1) := by
  unfold cntR
  induction L with
  | nil => cases hp
  | cons q L ih =>
    simp only [List.filter_cons]
    rcases List.mem_cons.mp hp with rfl | hp
    · have := cntR_mono L r (k := r p.1) (k' := r p.1 + 1) (by omega)
      unfold cntR at this
      simp; omega
    · have := ih hp
      by_cases h1 : r q.1 < r p.1
      · have h2 : r q.1 < r p.1 + 1 := by omega
        simp [h1, h2]; omega
      · by_cases h2 : r q.1 < r p.1 + 1
        · simp [h1, h2]; omega
        · simp [h1, h2]; omega
theorem var_iff {k n n' : Int} {s : ByteArray} {m : Nat} {a : Nat → T} : (T.mk k n s m a).var? = some n' ↔ k = 1 ∧ n = n' := by
  unfold T.var?
  by_cases h : k = 1
  · simp [h]
  · simp [h]
theorem var_has {t : T} {n : Int} (h : t.var? = some n) : t.hasV n := by
  cases t with
  | nil => cases h
  | mk k n' s m a => exact .inl (var_iff.mp h)
theorem walkF_done {L : Bs} {r : Int → Nat} (hr : ∀ p ∈ L, ∀ v, p.2.hasV v → r v < r p.1) : ∀ (f : Nat) (t : T), (∀ n, t.var? = some n → cntR L r (r n + 1) ≤ f) → doneW L (walkF L f t) := by
  intro f
  induction f with
  | zero =>
    intro t h n hn
    have h0 := h n hn
    cases hx : findB L n with
    | none => rfl
    | some x => have := cntR_lt L r (findB_mem hx); simp only at this; omega
  | succ f ih =>
    intro t h
    by_cases hd : doneW L t
    · rw [walkF_more (i := 0) (show doneW L (walkF L 0 t) from hd) (f + 1) (by omega)]
      exact hd
    · rw [walkF_comm]
      have hd' : ∃ n x, t.var? = some n ∧ findB L n = some x := by
        apply Classical.byContradiction
        intro hno
        apply hd
        intro n hn
        cases hx : findB L n with
        | none => rfl
        | some x => exact absurd ⟨n, x, hn, hx⟩ hno
      obtain ⟨n', x, hn', hx⟩ := hd'
      have hs : stepW L t = x := by unfold stepW; rw [hn']; simp only [hx]
      rw [hs]
      refine ih _ fun n hn => ?_
      have h0 := h n' hn'
      have h1 := hr _ (findB_mem hx) n (var_has hn)
      have h2 := cntR_lt L r (findB_mem hx)
      have h3 := cntR_mono L r (k := r n + 1) (k' := r n') h1
      simp only at h2
      omega
/-- What a term stands for. -/
def walkN (L : Bs) (t : T) : T := walkF L L.length t
theorem EnvOk.walk_done {L : Bs} (h : EnvOk L) (t : T) : doneW L (walkN L t) := by
  obtain ⟨r, hr⟩ := h.acyc
  exact walkF_done hr _ t fun n _ => cntR_le L r _
theorem walkN_eq {L : Bs} (h : EnvOk L) {t : T} {j : Nat} (hd : doneW L (walkF L j t)) : walkN L t = walkF L j t := by
  unfold walkN
  rcases Nat.lt_or_ge j L.length with h1 | h1
  · exact walkF_more hd _ (by omega)
  · exact (walkF_more (h.walk_done t) j h1).symm
theorem EnvOk.not_done {L : Bs} (h : EnvOk L) {t : T} {j : Nat} (hj : L.length ≤ j) : doneW L (walkF L j t) := by
  rw [walkF_more (h.walk_done t) j hj]; exact h.walk_done t
theorem EnvOk.step_ok {L : Bs} (h : EnvOk L) {t : T} (ht : t.ok) : (stepW L t).ok := by
  unfold stepW
  split
  · split
    · rename_i n _ x hx; exact (h.find hx).2.2
    · exact ht
  · exact ht
theorem EnvOk.walkF_ok {L : Bs} (h : EnvOk L) {t : T} (ht : t.ok) : ∀ j, (walkF L j t).ok
  | 0 => ht
  | j + 1 => h.step_ok (h.walkF_ok ht j)
theorem EnvOk.walk_ok {L : Bs} (h : EnvOk L) {t : T} (ht : t.ok) : (walkN L t).ok := h.walkF_ok ht _

/-! Whether a variable is within a term, once resolved. -/
inductive Reach (L : Bs) (n : Int) : T → Prop
  | var {t : T} : t.var? = some n → Reach L n t
  | bind {t : T} {m : Int} {x : T} : t.var? = some m → findB L m = some x → Reach L n x → Reach L n t
  | arg {n' : Int} {s : ByteArray} {m : Nat} {a : Nat → T} {i : Nat} : i < m → Reach L n (a i) → Reach L n (.mk 4 n' s m a)
theorem reach_var {L : Bs} {n k : Int} {t t' : T} (h : t.var? = some k) (h' : t'.var? = some k) (hr : Reach L n t) : Reach L n t' := by
  cases hr with
  | var e => rw [h] at e; injection e with e; subst e; exact .var h'
  | bind e hf hx => rw [h] at e; injection e with e; subst e; exact .bind h' hf hx
  | arg hi hx => rw [var_iff] at h; exact absurd h.1 (by decide)
theorem reach_of_has {L : Bs} {n v : Int} {x : T} (hx : x.var? = some v) (hr : Reach L n x) : ∀ {t : T}, t.hasV v → Reach L n t := by
  intro t
  induction t with
  | nil => exact fun h => h.elim
  | mk k n' s m a ih =>
    rintro (h | ⟨h4, i, hi, h⟩)
    · exact reach_var hx (var_iff.mpr h) hr
    · subst h4; exact .arg hi (ih i h)
theorem reach_has {L : Bs} {n : Int} {t : T} (h : Reach L n t) : ∃ v x, t.hasV v ∧ x.var? = some v ∧ Reach L n x := by
  induction h with
  | var e => exact ⟨n, _, var_has e, e, .var e⟩
  | bind e hf hx _ => exact ⟨_, _, var_has e, e, .bind e hf hx⟩
  | arg hi _ ih => obtain ⟨v, x, h1, h2, h3⟩ := ih; exact ⟨v, x, .inr ⟨rfl, _, hi, h1⟩, h2, h3⟩
def varT (n : Int) : T := .mk 1 n ⟨#[]⟩ 0 fun _ => .nil
theorem varT_var (n : Int) : (varT n).var? = some n := rfl
/-- Variables of a term have ranks below a bound. -/
theorem rank_bound (r : Int → Nat) : ∀ t : T, ∃ K, ∀ v, t.hasV v → r v < K := by
  intro t
  induction t with
  | nil => exact ⟨0, fun _ h => h.elim⟩
  | mk k n s m a ih =>
    have key : ∀ q, ∃ K, ∀ i, i < q → ∀ v, (a i).hasV v → r v < K := by
      intro q
      induction q with
      | zero => exact ⟨0, fun i hi => absurd hi (by omega)⟩
      | succ q ihq =>
        obtain ⟨K1, h1⟩ := ihq
        obtain ⟨K2, h2⟩ := ih q
        refine ⟨max K1 K2, fun i hi v hv => ?_⟩
        rcases Nat.lt_or_ge i q with h | h
        · have := h1 i h v hv; omega
        · obtain rfl : i = q := by omega
          have := h2 v hv; omega
    obtain ⟨K, hK⟩ := key m
    refine ⟨max (r n + 1) K, fun v hv => ?_⟩
    rcases hv with ⟨_, rfl⟩ | ⟨_, i, hi, hv⟩
    · omega
    · have := hK i hi v hv; omega
/-- A new binding. -/
theorem EnvOk.bind {L : Bs} (h : EnvOk L) {n : Int} {t : T} (hn : findB L n = none) (h0 : 0 ≤ n) (h1 : n < 1000) (ht : t.ok) (hno : ¬ Reach L n t) : EnvOk (L ++ [(n, t)]) := by
  obtain ⟨r, hr⟩ := h.acyc
  obtain ⟨K, hK⟩ := rank_bound r t
  refine ⟨?_, fun p hp => ?_, ?_⟩
  · rw [List.map_append, List.nodup_append]
    refine ⟨h.nd, by simp, fun a ha b hb => ?_⟩
    obtain ⟨p, hp, rfl⟩ := List.mem_map.mp ha
    simp at hb
    subst hb
    exact findB_none hn p hp
  · rcases List.mem_append.mp hp with hp | hp
    · exact h.ok p hp
    · simp at hp; subst hp; exact ⟨h0, h1, ht⟩
  · refine ⟨fun v => r v + @ite _ (Reach L n (varT v)) (Classical.propDecidable _) (K + 1) 0, fun p hp v hv => ?_⟩
    rcases List.mem_append.mp hp with hp | hp
    · have hlt := hr p hp v hv
      by_cases hv1 : Reach L n (varT v)
      · have hp1 : Reach L n (varT p.1) := by
          obtain ⟨k, x⟩ := p
          exact .bind (varT_var k) (findB_of_mem h.nd hp) (reach_of_has (varT_var v) hv1 hv)
        simp only [if_pos hv1, if_pos hp1]
        omega
      · simp only [if_neg hv1]
        omega
    · simp at hp
      subst hp
      have hv1 : ¬ Reach L n (varT v) := fun hr1 => hno (reach_of_has (varT_var v) hr1 hv)
      have hn1 : Reach L n (varT n) := .var (varT_var n)
      have := hK v hv
      simp only [if_neg hv1, if_pos hn1]
      omega
end Go.Proofs.Ytgoedlbdnmhppaa
namespace Go.Proofs.Ytgoedlbdnmhppaa
open Go.RowKit

/-- What one pair comes to. -/
inductive Out where
  | bind (n : Int) (t : T)
  | fail
  | args (m : Nat) (f g : Nat → T)
open Classical in
/-- One pair of which both sides are what they stand for. -/
noncomputable def stepU (L : Bs) (a b : T) : Out := match a, b with
  | .mk ka na sa ma fa, .mk kb nb sb mb fb =>
    if ka = 1 then
      (if kb = 1 then (if na = nb then .args 0 fa fb else if na < nb then .bind nb (.mk ka na sa ma fa) else .bind na (.mk kb nb sb mb fb))
       else if Reach L na (.mk kb nb sb mb fb) then .fail else .bind na (.mk kb nb sb mb fb))
    else if kb = 1 then (if Reach L nb (.mk ka na sa ma fa) then .fail else .bind nb (.mk ka na sa ma fa))
    else if ka ≠ kb ∨ (ka = 2 ∧ na ≠ nb) ∨ sa ≠ sb ∨ ma ≠ mb then .fail else .args ma fa fb
  | _, _ => .fail
inductive Res where
  | ok (L : Bs) (f : Nat)
  | many
  | unlike
def pairsOf (m : Nat) (g h : Nat → T) : List (T × T) := (List.range m).map fun i => (g i, h i)
/-- A stack of pairs, the first one on top; f: how many pairs may come up yet. -/
noncomputable def uniF : Nat → Bs → List (T × T) → Res
  | 0, L, [] => .ok L 0
  | 0, _, _ :: _ => .many
  | f + 1, L, [] => .ok L (f + 1)
  | f + 1, L, p :: rest => match stepU L (walkN L p.1) (walkN L p.2) with
    | .fail => .unlike
    | .bind n t => uniF f (L ++ [(n, t)]) rest
    | .args m g h => uniF f L (pairsOf m g h ++ rest)
theorem uniF_nil (f : Nat) (L : Bs) : uniF f L [] = .ok L f := by cases f <;> rfl
noncomputable def Res.then (r : Res) (xs : List (T × T)) : Res := match r with
  | .ok L f => uniF f L xs
  | .many => .many
  | .unlike => .unlike
theorem uniF_append : ∀ (f : Nat) (L : Bs) (xs ys : List (T × T)), uniF f L (xs ++ ys) = (uniF f L xs).then ys := by
  intro f
  induction f with
  | zero =>
    intro L xs ys
    cases xs with
    | nil => rfl
    | cons x xs => rfl
  | succ f ih =>
    intro L xs ys
    cases xs with
    | nil => rfl
    | cons x xs =>
      simp only [List.cons_append, uniF]
      cases stepU L (walkN L x.1) (walkN L x.2) with
      | fail => rfl
      | bind n t => exact ih _ _ _
      | args m g h => simp only [← List.append_assoc]; exact ih _ _ _
/-- Behind one pair. -/
theorem stepU_bind {L : Bs} {a b : T} (ha : a.ok) (hb : b.ok) (da : doneW L a) (db : doneW L b) {n : Int} {t : T} (he : stepU L a b = .bind n t) : findB L n = none ∧ 0 ≤ n ∧ n < 1000 ∧ t.ok ∧ ¬ Reach L n t := by
  cases a with
  | nil => cases he
  | mk ka na sa ma fa =>
  cases b with
  | nil => cases he
  | mk kb nb sb mb fb =>
  have other : ∀ {n k s m f}, (T.mk 1 k s m f).ok → doneW L (.mk 1 k s m f) → k ≠ n → ¬ Reach L n (.mk 1 k s m f) := by
    intro n k s m f _ hd hne hr
    cases hr with
    | var e => exact hne (var_iff.mp e).2
    | bind e hf hx => rw [hd _ e] at hf; cases hf
  unfold stepU at he
  simp only at he
  split at he
  · rename_i h1
    subst h1
    obtain ⟨a0, a1, _⟩ := ha.var rfl
    split at he
    · rename_i h1; subst h1
      obtain ⟨b0, b1, _⟩ := hb.var rfl
      split at he
      · cases he
      · rename_i hne
        split at he
        · rename_i hlt
          injection he with e1 e2; subst e1; subst e2
          exact ⟨db _ (var_iff.mpr ⟨rfl, rfl⟩), b0, b1, ha, other ha da hne⟩
        · injection he with e1 e2; subst e1; subst e2
          exact ⟨da _ (var_iff.mpr ⟨rfl, rfl⟩), a0, a1, hb, other hb db fun e => hne e.symm⟩
    · split at he
      · cases he
      · rename_i hr
        injection he with e1 e2; subst e1; subst e2
        exact ⟨da _ (var_iff.mpr ⟨rfl, rfl⟩), a0, a1, hb, hr⟩
  · split at he
    · rename_i h1; subst h1
      obtain ⟨b0, b1, _⟩ := hb.var rfl
      split at he
      · cases he
      · rename_i hr
        injection he with e1 e2; subst e1; subst e2
        exact ⟨db _ (var_iff.mpr ⟨rfl, rfl⟩), b0, b1, ha, hr⟩
    · split at he <;> cases he
theorem stepU_args {L : Bs} {a b : T} (ha : a.ok) (hb : b.ok) {m : Nat} {g h : Nat → T} (he : stepU L a b = .args m g h) : m < 1000 ∧ ∀ i, i < m → (g i).ok ∧ (h i).ok := by
  cases a with
  | nil => cases he
  | mk ka na sa ma fa =>
  cases b with
  | nil => cases he
  | mk kb nb sb mb fb =>
  unfold stepU at he
  simp only at he
  split at he
  · split at he
    · split at he
      · injection he with e1 e2 e3; subst e1; exact ⟨by omega, fun i hi => absurd hi (by omega)⟩
      · split at he <;> cases he
    · split at he <;> cases he
  · split at he
    · split at he <;> cases he
    · split at he
      · cases he
      · rename_i hc
        injection he with e1 e2 e3; subst e1; subst e2; subst e3
        have hm : ma = mb := Classical.byContradiction fun e => hc (.inr (.inr (.inr e)))
        subst hm
        exact ⟨ha.few, fun i hi => ⟨ha.arg hi, hb.arg hi⟩⟩
theorem pairsOf_ok {m : Nat} {g h : Nat → T} (hgh : ∀ i, i < m → (g i).ok ∧ (h i).ok) : ∀ p ∈ pairsOf m g h, p.1.ok ∧ p.2.ok := by
  intro p hp
  obtain ⟨i, hi, rfl⟩ := List.mem_map.mp hp
  exact hgh i (List.mem_range.mp hi)
/-- What a stack of pairs comes to: bindings behind those that there were. -/
theorem uniF_ok : ∀ (f : Nat) (L : Bs) (xs : List (T × T)), EnvOk L → (∀ p ∈ xs, p.1.ok ∧ p.2.ok) → ∀ L' f', uniF f L xs = .ok L' f' → EnvOk L' ∧ f' ≤ f ∧ ∃ M, L' = L ++ M ∧ M.length + f' ≤ f := by
  intro f
  induction f with
  | zero =>
    intro L xs hL _ L' f' he
    cases xs with
    | nil => injection he with e1 e2; subst e1; subst e2; exact ⟨hL, by omega, [], by simp, by simp⟩
    | cons x xs => cases he
  | succ f ih =>
    intro L xs hL hx L' f' he
    cases xs with
    | nil => injection he with e1 e2; subst e1; subst e2; exact ⟨hL, by omega, [], by simp, by simp⟩
    | cons x xs =>
      obtain ⟨h1, h2⟩ := hx x List.mem_cons_self
      have hr : ∀ p ∈ xs, p.1.ok ∧ p.2.ok := fun p hp => hx p (List.mem_cons_of_mem _ hp)
      simp only [uniF] at he
      cases hs : stepU L (walkN L x.1) (walkN L x.2) with
      | fail => rw [hs] at he; cases he
      | bind n t =>
        rw [hs] at he
        obtain ⟨b1, b2, b3, b4, b5⟩ := stepU_bind (hL.walk_ok h1) (hL.walk_ok h2) (hL.walk_done _) (hL.walk_done _) hs
        obtain ⟨c1, c2, M, rfl, c3⟩ := ih _ _ (hL.bind b1 b2 b3 b4 b5) hr _ _ he
        exact ⟨c1, by omega, (n, t) :: M, by simp, by simp; omega⟩
      | args m g h =>
        rw [hs] at he
        obtain ⟨b1, b2⟩ := stepU_args (hL.walk_ok h1) (hL.walk_ok h2) hs
        obtain ⟨c1, c2, M, rfl, c3⟩ := ih _ _ hL (fun p hp => by
          rcases List.mem_append.mp hp with hp | hp
          · exact pairsOf_ok b2 p hp
          · exact hr p hp) _ _ he
        exact ⟨c1, by omega, M, rfl, by omega⟩
end Go.Proofs.Ytgoedlbdnmhppaa
namespace Go.Proofs.Ytgoedlbdnmhppaa
open Go.RowKit

theorem intKeyed : Go.Maps.Keyed Try.prog 3 := Go.Maps.int_keyed Try.underlying3
theorem keyInt {i : Int} (h : I64 i) : keyOf Try.prog 3 (.int .i64 i) = some (.int .i64 i) := by
  have h1 : (IntKind.i64.min ≤ i) := h.1
  have h2 : (i ≤ IntKind.i64.max) := h.2
  exact Go.Maps.keyOf_int_mk Try.underlying3 (by simp only [Lit.wf, decide_eq_true h1, decide_eq_true h2, Bool.and_self])
/-- An element is its own datum. -/
def heldV (v : Value) : Option (DataW Value × List MemPlace) := some (.held v, [])
/-- Block b holds a map of at most n entries: at the key i lies M i. -/
def IM (w : World) (b n : Nat) (M : Int → Option Value) : Prop :=
  ∃ D : DataW Value, w.ownsMap Try.prog 3 heldV b n D ∧ ∀ i : Int, I64 i → Maps.has D (.int .i64 i) = (M i).isSome ∧ ∀ v, M i = some v → ∀ z, D.atKey (.int .i64 i) z = .held v
theorem IM.made (w : World) : IM (w.alloc (.map #[] 0)) w.heap.size 0 (fun _ => none) :=
  ⟨.map [], World.ownsMap_made w _ _ _, fun i _ => ⟨rfl, fun v h => by cases h⟩⟩
theorem IM.keep {w w' : World} {b n : Nat} {M : Int → Option Value} (h : IM w b n M) (hb : w'.heap[b]? = w.heap[b]?) : IM w' b n M := by
  obtain ⟨D, ⟨es, clock, hh, r⟩, hM⟩ := h
  exact ⟨D, ⟨es, clock, hb.trans hh, r⟩, hM⟩
theorem IM.lt {w : World} {b n : Nat} {M : Int → Option Value} (h : IM w b n M) : b < w.heap.size := by
  obtain ⟨D, h, _⟩ := h
  exact h.lt
theorem IM.look {w : World} {b n : Nat} {M : Int → Option Value} (h : IM w b n M) {t e : TypeId} (ht : Try.prog.underlying t = some (.map 3 e)) {z : Value} (hz : (zeroValue e).run Try.prog w = .ok z w) {i : Int} (hi : I64 i) :
    (Instr.lookup t (.map (some b)) (.int .i64 i) true).run Try.prog w = .ok (.tuple #[(M i).getD z, .bool (M i).isSome]) w := by
  obtain ⟨D, h, hM⟩ := h
  obtain ⟨v, ps, hrun, hv⟩ := h.look_ok intKeyed ht hz (zd := .held z) (zp := []) rfl (keyInt hi)
  obtain ⟨h1, h2⟩ := hM i hi
  rw [hrun, h1]
  have : v = (M i).getD z := by
    have hv : DataW.held v = D.atKey (.int .i64 i) (.held z) := congrArg Prod.fst (Option.some.inj hv)
    cases hm : M i with
    | none =>
      rw [hm] at h1
      rw [Maps.atKey_of_not_has h1] at hv
      injection hv with hv
    | some u =>
      rw [h2 u hm] at hv
      injection hv with hv
  rw [this]
theorem IM.look1 {w : World} {b n : Nat} {M : Int → Option Value} (h : IM w b n M) {t e : TypeId} (ht : Try.prog.underlying t = some (.map 3 e)) {z : Value} (hz : (zeroValue e).run Try.prog w = .ok z w) {i : Int} (hi : I64 i) :
    (Instr.lookup t (.map (some b)) (.int .i64 i) false).run Try.prog w = .ok ((M i).getD z) w := by
  obtain ⟨D, h, hM⟩ := h
  obtain ⟨v, ps, hrun, hv⟩ := h.lookup intKeyed ht hz (zd := .held z) (zp := []) rfl (keyInt hi)
  obtain ⟨h1, h2⟩ := hM i hi
  rw [hrun]
  have : v = (M i).getD z := by
    have hv : DataW.held v = D.atKey (.int .i64 i) (.held z) := congrArg Prod.fst (Option.some.inj hv)
    cases hm : M i with
    | none =>
      rw [hm] at h1
      rw [Maps.atKey_of_not_has h1] at hv
      injection hv with hv
    | some u =>
      rw [h2 u hm] at hv
      injection hv with hv
  rw [this]
def putI (M : Int → Option Value) (i : Int) (v : Value) : Int → Option Value := fun j => if j = i then some v else M j
def delI (M : Int → Option Value) (i : Int) : Int → Option Value := fun j => if j = i then none else M j
theorem IM.store {w : World} {b n : Nat} {M : Int → Option Value} (h : IM w b n M) {t e : TypeId} (ht : Try.prog.underlying t = some (.map 3 e)) (hn : n < maxLen) {i : Int} (hi : I64 i) (v : Value) :
    ∃ w', (Instr.mapUpdate t (.map (some b)) (.int .i64 i) v).run Try.prog w = .ok () w' ∧ IM w' b (n + 1) (putI M i v) ∧ w.mapTurned w' b := by
  obtain ⟨D, h, hM⟩ := h
  have hm := h.isMap
  obtain ⟨w', hrun, h', ht'⟩ := h.store intKeyed ht hn (val := v) (d := .held v) (ps := []) (keyInt hi) rfl
  refine ⟨w', hrun, ⟨_, h', fun j hj => ?_⟩, ht'⟩
  have hk : WideAt.IsKeyLit (.int .i64 i) := intKeyed.key (keyInt hi)
  by_cases hji : j = i
  · subst hji
    refine ⟨by rw [Maps.has_put_same hm hk]; simp [putI], fun u hu z => ?_⟩
    rw [Maps.atKey_put_same hm hk]
    simp [putI] at hu
    rw [hu]
  · have hne : (Lit.int .i64 j) ≠ Lit.int .i64 i := fun e => by injection e with _ e; exact hji e
    refine ⟨by rw [Maps.has_put_other hne]; simp only [putI, if_neg hji]; exact (hM j hj).1, fun u hu z => ?_⟩
    rw [Maps.atKey_put_other hne]
    simp only [putI, if_neg hji] at hu
    exact (hM j hj).2 u hu z
theorem IM.drop {w : World} {b n : Nat} {M : Int → Option Value} (h : IM w b n M) {t e : TypeId} (ht : Try.prog.underlying t = some (.map 3 e)) {i : Int} (hi : I64 i) (ty : TypeId) :
    ∃ w', (Builtin.delete_ #[t, 3] ty #[.map (some b), .int .i64 i]).run Try.prog w = .ok (.tuple #[]) w' ∧ IM w' b n (delI M i) ∧ w.mapTurned w' b := by
  obtain ⟨D, h, hM⟩ := h
  obtain ⟨w', hrun, h', ht'⟩ := h.drop intKeyed ht (keyInt hi) ty
  refine ⟨w', hrun, ⟨_, h', fun j hj => ?_⟩, ht'⟩
  by_cases hji : j = i
  · subst hji
    exact ⟨by rw [Maps.has_del_same]; simp [delI], fun u hu => by simp [delI] at hu⟩
  · have hne : (Lit.int .i64 j) ≠ Lit.int .i64 i := fun e => by injection e with _ e; exact hji e
    refine ⟨by rw [Maps.has_del_other hne]; simp only [delI, if_neg hji]; exact (hM j hj).1, fun u hu z => ?_⟩
    rw [Maps.atKey_del_other hne]
    simp only [delI, if_neg hji] at hu
    exact (hM j hj).2 u hu z
/-- What a store into a map leaves alone: every other block. -/
theorem turned_block {w w' : World} {b : Nat} (h : w.mapTurned w' b) (c : Nat) (hc : c ≠ b) : w'.heap[c]? = w.heap[c]? := by
  obtain ⟨es, clock, es', clock', hb, rfl⟩ := h
  exact Go.ChangeMaps.heap_setBlock_other hb _ hc
theorem turned_size {w w' : World} {b : Nat} (h : w.mapTurned w' b) : w'.heap.size = w.heap.size := by
  obtain ⟨es, clock, es', clock', hb, rfl⟩ := h
  simp [Go.ChangeMaps.setBlock]
theorem Below.turned {B : Nat} {W w w' : World} {b : Nat} (h : Below B W w) (ht : w.mapTurned w' b) (hb : B ≤ b) : Below B W w' :=
  h.grown ht.grown (by obtain ⟨es, clock, _, _, hh, _⟩ := ht; have := heap_lt hh; omega) fun k hk => by cases hk; exact hb
end Go.Proofs.Ytgoedlbdnmhppaa
namespace Go.Proofs.Ytgoedlbdnmhppaa
open Go.RowKit

def zT : Value := .agg #[.int .i64 0, .int .i64 0, .string ⟨#[]⟩, .slice none 0 0]
theorem zeroT (w : World) : (zeroValue 40).run Try.prog w = .ok (.agg #[.int .i64 0, .int .i64 0, .string ⟨#[]⟩, .slice none 0 0]) w := by kernel_rfl
def msrW (L : Bs) (r : Int → Nat) (g : Nat) (w : World) : Nat := match w.cell? ⟨g, 0, none⟩, w.cell? ⟨g, 1, none⟩ with
  | some (.int _ k), some (.int _ n) => if k = 1 then cntR L r (r n + 1) else 0
  | _, _ => 0
theorem msrW_of {L : Bs} {r : Int → Nat} {g : Nat} {w : World} {k n : Int} {s x : Value} {ty : TypeId} {m : Nat × Nat} (h : w.heap[g]? = some (.cells #[.int .i64 k, .int .i64 n, s, x] ty m)) : msrW L r g w = if k = 1 then cntR L r (r n + 1) else 0 := by
  obtain ⟨h0, h1, _⟩ := box4t h
  simp only [msrW, h0, h1]
/-- A box, written anew, and a new block behind it. -/
theorem put_new {w wr : World} {B g : Nat} {u0 u1 u2 u3 : Value} {ty : TypeId} {m : Nat × Nat} (h : wr.heap[g]? = some (.cells #[u0, u1, u2, u3] ty m)) (hB : B ≤ g) (hb : Below B w wr) (x0 x1 x2 x3 : Value) (o : Obj) :
    ((((((wr.setCell ⟨g, 0, none⟩ x0).setCell ⟨g, 1, none⟩ x1).setCell ⟨g, 2, none⟩ x2).setCell ⟨g, 3, none⟩ x3).alloc o).heap[g]? = some (.cells #[x0, x1, x2, x3] ty m)) ∧
    (∀ k, k ≠ g → k < wr.heap.size → (((((wr.setCell ⟨g, 0, none⟩ x0).setCell ⟨g, 1, none⟩ x1).setCell ⟨g, 2, none⟩ x2).setCell ⟨g, 3, none⟩ x3).alloc o).heap[k]? = wr.heap[k]?) ∧
    Below B w (((((wr.setCell ⟨g, 0, none⟩ x0).setCell ⟨g, 1, none⟩ x1).setCell ⟨g, 2, none⟩ x2).setCell ⟨g, 3, none⟩ x3).alloc o) := by
  obtain ⟨p0, p1, p2, p3⟩ := box_put4 h x0 x1 x2 x3 rfl
  have hg := heap_lt h
  refine ⟨(Below.heap_alloc _ _ _ (by omega)).trans p0, fun k hk hk2 => (Below.heap_alloc _ _ _ (by omega)).trans (p2 k hk), (p3 _ _ hB hb).alloc (by have := hb.size; omega) _⟩
/-- Every block but one is as it was. -/
structure But (b : Nat) (w w' : World) : Prop where
  os : w'.os = w.os
  tape : w'.tape = w.tape
  output : w'.output = w.output
  size : w.heap.size ≤ w'.heap.size
  block : ∀ k, k < w.heap.size → k ≠ b → w'.heap[k]? = w.heap[k]?
theorem But.refl (b : Nat) (w : World) : But b w w := ⟨rfl, rfl, rfl, Nat.le_refl _, fun _ _ _ => rfl⟩
theorem But.trans {b : Nat} {w w1 w2 : World} (h : But b w w1) (k : But b w1 w2) : But b w w2 :=
  ⟨k.os.trans h.os, k.tape.trans h.tape, k.output.trans h.output, Nat.le_trans h.size k.size, fun i hi hb => (k.block i (Nat.lt_of_lt_of_le hi h.size) hb).trans (h.block i hi hb)⟩
theorem But.of {b : Nat} {w w' : World} (h : Below w.heap.size w w') : But b w w' := ⟨h.os, h.tape, h.output, h.size, fun k hk _ => h.block k hk⟩
theorem But.turned {b : Nat} {w w' : World} (h : w.mapTurned w' b) : But b w w' :=
  ⟨h.grown.os, h.grown.tape, h.grown.output, h.grown.size, fun k _ hk => turned_block h k hk⟩
/-- .. below it everything is as it was. -/
theorem But.below {b : Nat} {w w' : World} (h : But b w w') {B : Nat} (hB : B ≤ b) (hs : B ≤ w.heap.size) : Below B w w' := ⟨h.os, h.tape, h.output, h.size, fun k hk => h.block k (by omega) (by omega)⟩
theorem But.low {b B : Nat} {w w1 w2 : World} (h : But b w w1) (k : Below B w1 w2) (hB : w.heap.size ≤ B) : But b w w2 :=
  ⟨k.os.trans h.os, k.tape.trans h.tape, k.output.trans h.output, Nat.le_trans h.size k.size, fun i hi hb => (k.block i (by omega)).trans (h.block i hi hb)⟩
def IsMapAt (w : World) (b : Nat) : Prop := ∃ es clock, w.heap[b]? = some (.map es clock)
theorem IM.is {w : World} {b n : Nat} {M : Int → Option Value} (h : IM w b n M) : IsMapAt w b := by
  obtain ⟨D, ⟨es, clock, hh, _⟩, _⟩ := h
  exact ⟨es, clock, hh⟩
theorem But.cells {b : Nat} {w w' : World} (h : But b w w') (hb : IsMapAt w b) {g : Nat} {cs : Array Value} {ty : TypeId} {m : Nat × Nat} (hg : w.heap[g]? = some (.cells cs ty m)) : w'.heap[g]? = some (.cells cs ty m) := by
  refine (h.block g (heap_lt hg) ?_).trans hg
  rintro rfl
  obtain ⟨es, clock, hh⟩ := hb
  rw [hh] at hg
  cases hg
theorem TP.but {b : Nat} {w w' : World} {S : Nat → Prop} {t : T} {v : Value} (ht : TP w S t v) (h : But b w w') (hb : IsMapAt w b) : TP w' S t v := ht.keep fun _ _ _ hS hh => ⟨h.cells hb hh, hS⟩
/-- A list of different numbers below n is no longer than n. -/
theorem nodup_few : ∀ (n : Nat) (l : List Int), l.Nodup → (∀ i ∈ l, 0 ≤ i ∧ i < (n : Int)) → l.length ≤ n := by
  intro n
  induction n with
  | zero =>
    intro l _ h
    cases l with
    | nil => simp
    | cons a l => have := h a List.mem_cons_self; omega
  | succ n ih =>
    intro l hl h
    have h1 := ih (l.erase (n : Int)) (hl.erase _) fun i hi => by
      have h2 := h i (List.mem_of_mem_erase hi)
      have h3 : i ≠ (n : Int) := fun e => by rw [e] at hi; exact (hl.not_mem_erase hi)
      omega
    have := List.length_erase (a := (n : Int)) (l := l)
    split at this <;> omega
def seenM (S : List Int) : Int → Option Value := fun i => if i ∈ S then some (.bool true) else none
theorem seenM_put (S : List Int) (i : Int) : putI (seenM S) i (.bool true) = seenM (i :: S) := by
  funext j
  by_cases h : j = i <;> simp [putI, seenM, h]
theorem zeroB (w : World) : (zeroValue 4).run Try.prog w = .ok (.bool false) w := by kernel_rfl
/-- A term's arguments, by its blocks. -/
theorem TP.args {w : World} {S : Nat → Prop} {k n : Int} {s : ByteArray} {m : Nat} {a : Nat → T} {v0 v1 v2 : Value} {A : Option Addr} {m' c : Nat} (h : TP w S (.mk k n s m a) (.agg #[v0, v1, v2, .slice A m' c])) :
    v0 = .int .i64 k ∧ v1 = .int .i64 n ∧ v2 = .string s ∧ m' = m ∧ m ≤ c ∧ (A = none → c = 0) ∧ ∀ i, i < m → ∃ (b : Nat) (k0 k1 : Int) (k2 : ByteArray) (A0 : Option Addr) (m0 c0 : Nat), A = some ⟨b, 0, none⟩ ∧ S b ∧ b < w.heap.size ∧ w.cell? ⟨b, i * 4, none⟩ = some (.int .i64 k0) ∧ w.cell? ⟨b, i * 4 + 1, none⟩ = some (.int .i64 k1) ∧
      w.cell? ⟨b, i * 4 + 2, none⟩ = some (.string k2) ∧ w.cell? ⟨b, i * 4 + 3, none⟩ = some (.slice A0 m0 c0) ∧ TP w S (a i) (.agg #[.int .i64 k0, .int .i64 k1, .string k2, .slice A0 m0 c0]) := by
  obtain ⟨A', c', e, hmc, hA, hx⟩ := h
  injection e with e
  simp only [Array.mk.injEq, List.cons.injEq, and_true] at e
  obtain ⟨rfl, rfl, rfl, e⟩ := e
  injection e with e1 e2 e3
  subst e1; subst e2; subst e3
  refine ⟨rfl, rfl, rfl, rfl, hmc, hA, fun i hi => ?_⟩
  obtain ⟨b, cs, f, rfl, hS, hb, hc⟩ := hx (by omega)
  obtain ⟨v0, v1, v2, v3, c0, c1, c2, c3, ht⟩ := hc i hi
  obtain ⟨k0, k1, k2, A0, m0, c0', he⟩ := ht.agg
  injection he with he
  simp only [Array.mk.injEq, List.cons.injEq, and_true] at he
  obtain ⟨rfl, rfl, rfl, rfl⟩ := he
  have hr := fun (j : Nat) => cell_of_row w b j _ _ _ hb
  rw [Nat.mul_comm 4 i] at c0 c1 c2 c3
  exact ⟨b, k0, k1, k2, A0, m0, c0', rfl, hS, heap_lt hb, (hr _).trans c0, (hr _).trans c1, (hr _).trans c2, (hr _).trans c3, ht⟩
theorem hasV_inr {t : T} (h : t.ok) : ∀ v, t.hasV v → 0 ≤ v ∧ v < 1000 := by
  induction t with
  | nil => exact fun _ h => h.elim
  | mk k n s m a ih =>
    rintro v (⟨h1, rfl⟩ | ⟨_, i, hi, h2⟩)
    · have := h.var h1; exact ⟨this.1, this.2.1⟩
    · exact ih i (h.arg hi) v h2
end Go.Proofs.Ytgoedlbdnmhppaa
namespace Go.Proofs.Ytgoedlbdnmhppaa
open Go.RowKit

/-- Terms lie in blocks of terms: what a row of pairs does in its own block leaves them alone. -/
theorem TP.row {w w' : World} {t : T} {v : Value} (ht : TP w (fun _ => True) t v) (hk : ∀ (b : Nat) (cs : Array Value) (f : Nat × Nat), w.heap[b]? = some (.cells cs 40 f) → w'.heap[b]? = w.heap[b]?) : TP w' (fun _ => True) t v :=
  ht.keep fun b cs f _ hh => ⟨(hk b cs f hh).trans hh, trivial⟩
end Go.Proofs.Ytgoedlbdnmhppaa
namespace Go.Proofs.Ytgoedlbdnmhppaa
open Go.RowKit

/-- The reference's bindings: a slice of them. -/
structure BL (w : World) (A : Option Addr) (c : Nat) (L : Bs) : Prop where
  cap : L.length ≤ c
  nil : A = none → c = 0
  few : L.length ≤ 1000
  cells : ∀ i p, L[i]? = some p → ∃ (b : Nat) (cs : Array Value) (f : Nat × Nat) (k0 k1 : Int) (k2 : ByteArray) (A0 : Option Addr) (m0 c0 : Nat), A = some ⟨b, 0, none⟩ ∧ w.heap[b]? = some (.cells cs 97 f) ∧
    cs[i * 5]? = some (.int .i64 p.1) ∧ cs[i * 5 + 1]? = some (.int .i64 k0) ∧ cs[i * 5 + 2]? = some (.int .i64 k1) ∧ cs[i * 5 + 3]? = some (.string k2) ∧ cs[i * 5 + 4]? = some (.slice A0 m0 c0) ∧ TP w (fun _ => True) p.2 (.agg #[.int .i64 k0, .int .i64 k1, .string k2, .slice A0 m0 c0])
theorem BL.below {w w' : World} {A : Option Addr} {c : Nat} {L : Bs} (h : BL w A c L) (hb : Below w.heap.size w w') : BL w' A c L :=
  ⟨h.cap, h.nil, h.few, fun i p hp => by
    obtain ⟨b, cs, f, k0, k1, k2, A0, m0, c0, hA, hh, h0, h1, h2, h3, h4, ht⟩ := h.cells i p hp
    exact ⟨b, cs, f, k0, k1, k2, A0, m0, c0, hA, (hb.block b (heap_lt hh)).trans hh, h0, h1, h2, h3, h4, ht.below hb⟩⟩
theorem BL.get {w : World} {A : Option Addr} {c : Nat} {L : Bs} (h : BL w A c L) {i : Nat} {p : Int × T} (hp : L[i]? = some p) : ∃ (b : Nat) (k0 k1 : Int) (k2 : ByteArray) (A0 : Option Addr) (m0 c0 : Nat), A = some ⟨b, 0, none⟩ ∧ b < w.heap.size ∧
    w.cell? ⟨b, i * 5, none⟩ = some (.int .i64 p.1) ∧ w.cell? ⟨b, i * 5 + 1, none⟩ = some (.int .i64 k0) ∧ w.cell? ⟨b, i * 5 + 1 + 1, none⟩ = some (.int .i64 k1) ∧ w.cell? ⟨b, i * 5 + 1 + 2, none⟩ = some (.string k2) ∧ w.cell? ⟨b, i * 5 + 1 + 3, none⟩ = some (.slice A0 m0 c0) ∧ TP w (fun _ => True) p.2 (.agg #[.int .i64 k0, .int .i64 k1, .string k2, .slice A0 m0 c0]) := by
  obtain ⟨b, cs, f, k0, k1, k2, A0, m0, c0, hA, hh, h0, h1, h2, h3, h4, ht⟩ := h.cells i p hp
  have hr := fun (j : Nat) => cell_of_row w b j _ _ _ hh
  exact ⟨b, k0, k1, k2, A0, m0, c0, hA, heap_lt hh, (hr _).trans h0, (hr _).trans h1, (hr _).trans h2, (hr _).trans h3, (hr _).trans h4, ht⟩
theorem findB_at : ∀ {L : Bs} {n : Int} {i : Nat} {x : T}, (∀ (q : Nat) (p : Int × T), q < i → L[q]? = some p → p.1 ≠ n) → L[i]? = some (n, x) → findB L n = some x := by
  intro L
  induction L with
  | nil => intro n i x _ h; simp at h
  | cons p L ih =>
    intro n i x h0 h1
    obtain ⟨k, y⟩ := p
    cases i with
    | zero => simp at h1; obtain ⟨rfl, rfl⟩ := h1; simp [findB]
    | succ i =>
      have hne : k ≠ n := h0 0 (k, y) (Nat.succ_pos i) rfl
      simp only [findB, if_neg hne]
      exact ih (fun q p hq hp => h0 (q + 1) p (Nat.succ_lt_succ hq) (by simpa using hp)) (by simpa using h1)
theorem findB_no : ∀ {L : Bs} {n : Int}, (∀ (q : Nat) (p : Int × T), L[q]? = some p → p.1 ≠ n) → findB L n = none := by
  intro L
  induction L with
  | nil => intro n _; rfl
  | cons p L ih =>
    intro n h0
    obtain ⟨k, y⟩ := p
    have hne : k ≠ n := h0 0 (k, y) rfl
    simp only [findB, if_neg hne]
    exact ih (fun q p hp => h0 (q + 1) p (by simpa using hp))
def FindR (L : Bs) (n : Int) (w0 w : World) (e : Ending) (w' : World) : Prop :=
  (∃ (k0 k1 : Int) (k2 : ByteArray) (A0 : Option Addr) (m0 c0 : Nat), e = .returned (.tuple #[.agg #[.int .i64 k0, .int .i64 k1, .string k2, .slice A0 m0 c0], .bool (findB L n).isSome]) ∧ ∀ x, findB L n = some x → TP w0 (fun _ => True) x (.agg #[.int .i64 k0, .int .i64 k1, .string k2, .slice A0 m0 c0])) ∧ Below w.heap.size w w'
set_option maxRecDepth 100000 in
set_option maxHeartbeats 4000000 in
theorem rfind_any {w0 w : World} {A : Option Addr} {c : Nat} {L : Bs} (h : BL w0 A c L) (n : Int) (hb0 : Below w0.heap.size w0 w) :
    Calls Try.prog 73 #[.slice A L.length c, .int .i64 n] w fun e w' => FindR L n w0 w e w' := by
  have H := Lib.hid h
  have HB0 := Lib.hid hb0
  have hfew := h.few
  have hcap := h.cap
  clear h hb0
  obtain ⟨ln, hln⟩ : ∃ ln, ln = L.length := ⟨_, rfl⟩
  rw [← hln] at hfew hcap ⊢
  have HL := Lib.hid hln
  clear hln
  go_enter Try.func73, Try.ntmps73
  go_wp2_with fail
  go_loop [6] (fun iv => ∃ i : Nat, iv = .int .i64 (i : Int) ∧ i ≤ ln ∧ ∀ q p, q < i → L[q]? = some p → p.1 ≠ n) (fun iv => ln - (intOf iv).toNat)
  case atStart => exact ⟨0, rfl, Nat.zero_le _, fun q p hq => absurd hq (by omega)⟩
  case round =>
    obtain ⟨i, rfl, hi, hno⟩ := hrel
    have HN := Lib.hid hno
    clear hno
    by_cases him : i < ln
    · have him' : (i : Int) < (ln : Int) := by omega
      obtain ⟨p, hp⟩ : ∃ p, L[i]? = some p := ⟨L[i]'(by have := HL.out; omega), List.getElem?_eq_getElem _⟩
      obtain ⟨b, k0, k1, k2, A0, m0, c0, rfl, hbl0, d0, d1, d2, d3, d4, ht⟩ := H.out.get hp
      have hbl : b < w.heap.size := Nat.lt_of_lt_of_le hbl0 HB0.out.size
      have d0 := (HB0.out.cell (p := ⟨b, i * 5, none⟩) hbl0).trans d0
      have d1 := (HB0.out.cell (p := ⟨b, i * 5 + 1, none⟩) hbl0).trans d1
      have d2 := (HB0.out.cell (p := ⟨b, i * 5 + 1 + 1, none⟩) hbl0).trans d2
      have d3 := (HB0.out.cell (p := ⟨b, i * 5 + 1 + 2, none⟩) hbl0).trans d3
      have d4 := (HB0.out.cell (p := ⟨b, i * 5 + 1 + 3, none⟩) hbl0).trans d4
      have HT := Lib.hid ht
      have HP := Lib.hid hp
      clear ht hp
      cases hn : (p.1 == n) with
      | true =>
        have hf : findB L n = some p.2 := findB_at HN.out (by rw [HP.out]; have : p.1 = n := by simpa using hn
                                                              rw [← this])
        have HF := Lib.hid hf
        clear hf
        go_wp2_with fail
        refine bodyPost_ret (v := .tuple #[.agg #[.int .i64 k0, .int .i64 k1, .string k2, .slice A0 m0 c0], .bool true]) (by simp [results, go_sem]) rfl ?_
        exact ⟨⟨k0, k1, k2, A0, m0, c0, by rw [HF.out]; rfl, fun x hx => by rw [HF.out] at hx; injection hx with hx; subst hx; exact HT.out⟩, (Below.refl _ _).alloc (Nat.le_refl _) _⟩
      | false =>
        have hne : p.1 ≠ n := by simpa using hn
        have HNE := Lib.hid hne
        clear hne
        go_wp2_with fail
        go_round
        case rel =>
          refine ⟨i + 1, by go_num, him, fun q p' hq hp' => ?_⟩
          by_cases hqi : q = i
          · subst hqi; rw [HP.out] at hp'; injection hp' with hp'; subst hp'; exact HNE.out
          · exact HN.out q p' (by omega) hp'
        case measure => simp [intOf]; omega
    · obtain rfl : i = ln := by omega
      have hf : findB L n = none := findB_no fun q p hp => HN.out q p (by
        have h1 : q < L.length := by
          rcases Nat.lt_or_ge q L.length with h | h
          · exact h
          · rw [List.getElem?_eq_none h] at hp; cases hp
        have := HL.out; omega) hp
      have HF := Lib.hid hf
      clear hf
      go_wp2_with fail
      refine bodyPost_ret (v := .tuple #[.agg #[.int .i64 0, .int .i64 0, .string ⟨#[]⟩, .slice none 0 0], .bool false]) (by simp [results, go_sem]) rfl ?_
      exact ⟨⟨0, 0, ⟨#[]⟩, none, 0, 0, by rw [HF.out]; rfl, fun x hx => by rw [HF.out] at hx; cases hx⟩, (Below.refl _ _).alloc (Nat.le_refl _) _⟩
end Go.Proofs.Ytgoedlbdnmhppaa
namespace Go.Proofs.Ytgoedlbdnmhppaa
open Go.RowKit

theorem TP.kind {w : World} {S : Nat → Prop} {t : T} {k n : Int} {s x : Value} (h : TP w S t (.agg #[.int .i64 k, .int .i64 n, s, x])) (ht : t.ok) (hk : k = 1) : t.var? = some n ∧ 0 ≤ n ∧ n < 1000 := by
  cases t with
  | nil => exact h.elim
  | mk ku nu su mu au =>
    obtain ⟨_, _, e, _⟩ := h
    injection e with e
    simp only [Array.mk.injEq, List.cons.injEq, and_true] at e
    obtain ⟨e1, e2, _⟩ := e
    injection e1 with _ e1
    injection e2 with _ e2
    subst e1; subst e2
    have := ht.var hk
    exact ⟨var_iff.mpr ⟨hk, rfl⟩, this.1, this.2.1⟩
theorem TP.novar {w : World} {S : Nat → Prop} {t : T} {k n : Int} {s x : Value} (h : TP w S t (.agg #[.int .i64 k, .int .i64 n, s, x])) (hk : k ≠ 1) : t.var? = none := by
  cases t with
  | nil => exact h.elim
  | mk ku nu su mu au =>
    obtain ⟨_, _, e, _⟩ := h
    injection e with e
    simp only [Array.mk.injEq, List.cons.injEq, and_true] at e
    obtain ⟨e1, _⟩ := e
    injection e1 with _ e1
    subst e1
    simp [T.var?, hk]
structure RWk (w0 w : World) (L : Bs) (t : T) (wr : World) (i : Nat) (k n : Int) (s : ByteArray) (A : Option Addr) (m c : Nat) : Prop where
  box : wr.heap[w.heap.size]? = some (.cells #[.int .i64 k, .int .i64 n, .string s, .slice A m c] 40 (0, 0))
  res : wr.heap[w.heap.size + 1]? = some (.cells #[.int .i64 0, .int .i64 0, .string ⟨#[]⟩, .slice none 0 0] 40 (0, 0))
  tp : TP w0 (fun _ => True) (walkF L i t) (.agg #[.int .i64 k, .int .i64 n, .string s, .slice A m c])
  low : Below w.heap.size w wr
  hi : i ≤ L.length
set_option maxRecDepth 100000 in
set_option maxHeartbeats 4000000 in
theorem rwalk_any {w0 w : World} {A : Option Addr} {c : Nat} {L : Bs} (h : BL w0 A c L) (hL : EnvOk L) {t : T} {v : Value} (hv : TP w0 (fun _ => True) t v) (ht : t.ok) (hb0 : Below w0.heap.size w0 w) :
    Calls Try.prog 57 #[.slice A L.length c, v] w fun e w' => (∃ v', e = .returned v' ∧ TP w0 (fun _ => True) (walkN L t) v') ∧ Below w.heap.size w w' := by
  obtain ⟨k, n, s, A1, m1, c1, rfl⟩ := hv.agg
  have H := Lib.hid h
  have HV := Lib.hid hv
  have HB0 := Lib.hid hb0
  have hfew := h.few
  clear h hv hb0
  go_enter Try.func57, Try.ntmps57
  go_wp2_with fail
  go_loopw [5] (fun iv wr => ∃ (i : Nat) (k' n' : Int) (s' : ByteArray) (A' : Option Addr) (m' c' : Nat), iv = .int .i64 (i : Int) ∧ RWk w0 w L t wr i k' n' s' A' m' c') (fun iv _ => L.length - (intOf iv).toNat)
  case atStart =>
    have B0 := ((Below.refl w.heap.size w).alloc (Nat.le_refl _) (Obj.cells #[.int .i64 k, .int .i64 n, .string s, .slice A1 m1 c1] 40)).alloc (by simp) (Obj.cells #[.int .i64 0, .int .i64 0, .string ⟨#[]⟩, .slice none 0 0] 40)
    exact ⟨0, k, n, s, A1, m1, c1, rfl, (Below.heap_alloc _ _ _ (by simp)).trans (heap_alloc_new _ _), (congrArg _ (by simp)).trans (heap_alloc_new _ _), HV.out, B0, Nat.zero_le _⟩
  case round =>
    obtain ⟨i, k', n', s', A', m', c', rfl, hr⟩ := hrel
    have R := Lib.hid hr
    obtain ⟨x0, x1, x2, x3⟩ := box4 hr.box
    obtain ⟨y0, y1, y2, y3⟩ := box4 hr.res
    have hgl := heap_lt hr.box
    have hgl1 := heap_lt hr.res
    have hi := hr.hi
    have hi' : (i : Int) ≤ (L.length : Int) := by omega
    have xf : ∀ i, wr.frozen? ⟨w.heap.size, i, none⟩ = false := fun i => by simp [World.frozen?, hr.box]
    have yf : ∀ i, wr.frozen? ⟨w.heap.size + 1, i, none⟩ = false := fun i => by simp [World.frozen?, hr.res]
    have hok := hL.walkF_ok ht i
    have FIN := Lib.hid (show ∀ W, Below w.heap.size w W → doneW L (walkF L i t) → (∃ v', Ending.returned (.agg #[.int .i64 k', .int .i64 n', .string s', .slice A' m' c']) = .returned v' ∧ TP w0 (fun _ => True) (walkN L t) v') ∧ Below w.heap.size w W from fun W hW hd => ⟨⟨_, rfl, by rw [walkN_eq hL hd]; exact R.out.tp⟩, hW⟩)
    clear hr
    cases hk : (k' == 1) with
    | true =>
      have hk1 : k' = 1 := by simpa using hk
      obtain ⟨hv1, hn0, hn1⟩ := R.out.tp.kind hok hk1
      have HV1 := Lib.hid hv1
      have HB := Lib.hid (HB0.out.trans (R.out.low.mono HB0.out.size))
      clear hk1 hv1
      go_wp2_with fail
      refine (rfind_any H.out n' HB.out).mono ?_
      rintro e w1 ⟨⟨q0, q1, q2, qA, qm, qc, rfl, hx⟩, h1⟩
      have HX := Lib.hid hx
      have B1 := Lib.hid (h1.alloc h1.size (Obj.cells #[.int .i64 q0, .int .i64 q1, .string q2, .slice qA qm qc] 40))
      have X1 := Lib.hid ((B1.out.block _ hgl).trans R.out.box)
      have Y1 := Lib.hid ((B1.out.block _ hgl1).trans R.out.res)
      have X0 := (h1.block _ hgl).trans R.out.box
      have Y0 := (h1.block _ hgl1).trans R.out.res
      have l0 := heap_lt X0
      have l1 := heap_lt Y0
      obtain ⟨x0, x1, x2, x3⟩ := box4 X0
      obtain ⟨y0, y1, y2, y3⟩ := box4 Y0
      have xf : ∀ i, w1.frozen? ⟨w.heap.size, i, none⟩ = false := fun i => by simp [World.frozen?, X0]
      have yf : ∀ i, w1.frozen? ⟨w.heap.size + 1, i, none⟩ = false := fun i => by simp [World.frozen?, Y0]
      have BW := Lib.hid (R.out.low.trans (h1.mono R.out.low.size))
      clear hx h1
      cases hf : findB L n' with
      | some x =>
        have hs : walkF L (i + 1) t = x := by simp only [walkF, stepW, HV1.out, hf]
        have hlt : i < L.length := by
          rcases Nat.lt_or_ge i L.length with h | h
          · exact h
          · have := hL.not_done (t := t) h n' HV1.out; rw [hf] at this; cases this
        have HS := Lib.hid hs
        have HXX := Lib.hid (HX.out x hf)
        have Y2 := Lib.hid Y0
        have P := Lib.hid (put_new X0 (Nat.le_refl _) BW.out (.int .i64 q0) (.int .i64 q1) (.string q2) (.slice qA qm qc) (Obj.cells #[.int .i64 q0, .int .i64 q1, .string q2, .slice qA qm qc] 40))
        clear hs X0 Y0 hf
        simp only [Option.isSome]
        go_wp2_with fail
        go_roundw
        case rel => exact ⟨i + 1, q0, q1, q2, qA, qm, qc, by go_num, P.out.1, (P.out.2.1 _ (by omega) l1).trans Y2.out, by rw [HS.out]; exact HXX.out, P.out.2.2, hlt⟩
        case measure => simp [intOf]; omega
      | none =>
        have HD := Lib.hid (show doneW L (walkF L i t) from fun n2 hn2 => by rw [HV1.out] at hn2; injection hn2 with hn2; subst hn2; exact hf)
        have P1 := Lib.hid (box_put4 Y0 (.int .i64 k') (.int .i64 n') (.string s') (.slice A' m' c') rfl)
        have P2 := Lib.hid (put_new Y0 (Nat.le_succ _) BW.out (.int .i64 k') (.int .i64 n') (.string s') (.slice A' m' c') (Obj.cells #[.int .i64 q0, .int .i64 q1, .string q2, .slice qA qm qc] 40))
        clear hf X0 Y0
        simp only [Option.isSome]
        go_wp2_with fail
        obtain ⟨p0, p1, p2, p3⟩ := box4 P1.out.1
        refine bodyPost_ret (v := .agg #[.int .i64 k', .int .i64 n', .string s', .slice A' m' c']) (by simp [results, go_sem, p0, p1, p2, p3, l1]) rfl ?_
        exact FIN.out _ P2.out.2.2 HD.out
    | false =>
      have hk1 : k' ≠ 1 := by simpa using hk
      have hd : doneW L (walkF L i t) := fun n2 hn2 => by rw [R.out.tp.novar hk1] at hn2; cases hn2
      have HD := Lib.hid hd
      clear hd hk1
      go_wp2_with fail
      have P1 := box_put4 R.out.res (.int .i64 k') (.int .i64 n') (.string s') (.slice A' m' c') rfl
      obtain ⟨p0, p1, p2, p3⟩ := box4 P1.1
      refine bodyPost_ret (v := .agg #[.int .i64 k', .int .i64 n', .string s', .slice A' m' c']) (by simp [results, go_sem, p0, p1, p2, p3]) rfl ?_
      exact FIN.out _ (P1.2.2.2 _ _ (Nat.le_succ _) R.out.low) HD.out
end Go.Proofs.Ytgoedlbdnmhppaa
namespace Go.Proofs.Ytgoedlbdnmhppaa
open Go.RowKit

/-- What 'reach' has gathered behind ns. -/
structure RSet (L : Bs) (t : T) (ns ns' : List Int) : Prop where
  sub : ∀ x ∈ ns, x ∈ ns'
  rch : ∀ x ∈ ns', x ∈ ns ∨ Reach L x t
  has : ∀ x, t.hasV x → x ∈ ns'
  clo : ∀ x ∈ ns', x ∉ ns → ∀ y, findB L x = some y → ∀ z, y.hasV z → z ∈ ns'
  nd : ns'.Nodup
  inr : ∀ x ∈ ns', 0 ≤ x ∧ x < 1000
theorem var_hasV {t : T} {n x : Int} (hv : t.var? = some n) (h : t.hasV x) : x = n := by
  cases t with
  | nil => exact h.elim
  | mk k n' s m a =>
    obtain ⟨h1, h2⟩ := var_iff.mp hv
    rcases h with ⟨_, h⟩ | ⟨h, _⟩
    · omega
    · omega
theorem RSet.old {L : Bs} {t : T} {n : Int} {ns : List Int} (hv : t.var? = some n) (hn : n ∈ ns) (nd : ns.Nodup) (inr : ∀ x ∈ ns, 0 ≤ x ∧ x < 1000) : RSet L t ns ns :=
  ⟨fun _ h => h, fun _ h => .inl h, fun x hx => by rw [var_hasV hv hx]; exact hn, fun _ h h' => absurd h h', nd, inr⟩
theorem nodup_snoc {ns : List Int} {n : Int} (nd : ns.Nodup) (hn : n ∉ ns) : (ns ++ [n]).Nodup := by
  rw [List.nodup_append]
  refine ⟨nd, by simp, fun a ha b hb => ?_⟩
  simp at hb
  subst hb
  rintro rfl
  exact hn ha
theorem inr_snoc {ns : List Int} {n : Int} (inr : ∀ x ∈ ns, 0 ≤ x ∧ x < 1000) (h0 : 0 ≤ n) (h1 : n < 1000) : ∀ x ∈ ns ++ [n], 0 ≤ x ∧ x < 1000 := fun x hx => by
  rcases List.mem_append.mp hx with hx | hx
  · exact inr x hx
  · simp at hx; subst hx; exact ⟨h0, h1⟩
theorem RSet.unbound {L : Bs} {t : T} {n : Int} {ns : List Int} (hv : t.var? = some n) (hn : n ∉ ns) (hf : findB L n = none) (nd : ns.Nodup) (inr : ∀ x ∈ ns, 0 ≤ x ∧ x < 1000) (h0 : 0 ≤ n) (h1 : n < 1000) : RSet L t ns (ns ++ [n]) :=
  ⟨fun _ h => List.mem_append_left _ h, fun x hx => by
    rcases List.mem_append.mp hx with hx | hx
    · exact .inl hx
    · simp at hx; subst hx; exact .inr (.var hv), fun x hx => by rw [var_hasV hv hx]; simp, (fun x hx hx' y hy => by
    rcases List.mem_append.mp hx with hx | hx
    · exact absurd hx hx'
    · simp at hx; subst hx; rw [hf] at hy; cases hy), nodup_snoc nd hn, inr_snoc inr h0 h1⟩
theorem RSet.bound {L : Bs} {t x : T} {n : Int} {ns ns' : List Int} (hv : t.var? = some n) (hf : findB L n = some x) (h : RSet L x (ns ++ [n]) ns') : RSet L t ns ns' :=
  ⟨fun y hy => h.sub y (List.mem_append_left _ hy), fun y hy => by
    rcases h.rch y hy with h1 | h1
    · rcases List.mem_append.mp h1 with h1 | h1
      · exact .inl h1
      · simp at h1; subst h1; exact .inr (.var hv)
    · exact .inr (.bind hv hf h1), fun y hy => by rw [var_hasV hv hy]; exact h.sub n (by simp), fun y hy hy' z hz => by
    by_cases hyn : y = n
    · subst hyn; rw [hf] at hz; injection hz with hz; subst hz; exact h.has
    · exact h.clo y hy (by simp [hy', hyn]) z hz, h.nd, h.inr⟩
/-- .. of the first i arguments. -/
structure RArgs (L : Bs) (a : Nat → T) (i : Nat) (ns ns' : List Int) : Prop where
  sub : ∀ x ∈ ns, x ∈ ns'
  rch : ∀ x ∈ ns', x ∈ ns ∨ ∃ q, q < i ∧ Reach L x (a q)
  has : ∀ q, q < i → ∀ x, (a q).hasV x → x ∈ ns'
  clo : ∀ x ∈ ns', x ∉ ns → ∀ y, findB L x = some y → ∀ z, y.hasV z → z ∈ ns'
  nd : ns'.Nodup
  inr : ∀ x ∈ ns', 0 ≤ x ∧ x < 1000
theorem RArgs.zero {L : Bs} {a : Nat → T} {ns : List Int} (nd : ns.Nodup) (inr : ∀ x ∈ ns, 0 ≤ x ∧ x < 1000) : RArgs L a 0 ns ns :=
  ⟨fun _ h => h, fun _ h => .inl h, fun q hq => absurd hq (by omega), fun _ h h' => absurd h h', nd, inr⟩
theorem RArgs.succ {L : Bs} {a : Nat → T} {i : Nat} {ns n1 n2 : List Int} (h : RArgs L a i ns n1) (k : RSet L (a i) n1 n2) : RArgs L a (i + 1) ns n2 :=
  ⟨fun x hx => k.sub x (h.sub x hx), fun x hx => by
    rcases k.rch x hx with h1 | h1
    · rcases h.rch x h1 with h2 | ⟨q, hq, h2⟩
      · exact .inl h2
      · exact .inr ⟨q, by omega, h2⟩
    · exact .inr ⟨i, by omega, h1⟩, fun q hq x hx => by
    by_cases hqi : q = i
    · subst hqi; exact k.has x hx
    · exact k.sub x (h.has q (by omega) x hx), fun x hx hx' y hy z hz => by
    by_cases h1 : x ∈ n1
    · exact k.sub z (h.clo x h1 hx' y hy z hz)
    · exact k.clo x hx h1 y hy z hz, k.nd, k.inr⟩
theorem RArgs.done {L : Bs} {n : Int} {s : ByteArray} {m : Nat} {a : Nat → T} {ns ns' : List Int} (h : RArgs L a m ns ns') : RSet L (.mk 4 n s m a) ns ns' :=
  ⟨h.sub, fun x hx => (h.rch x hx).imp id fun ⟨_, hq, h⟩ => .arg hq h, fun x hx => by
    rcases hx with ⟨h1, _⟩ | ⟨_, i, hi, h2⟩
    · exact absurd h1 (by decide)
    · exact h.has i hi x h2, h.clo, h.nd, h.inr⟩
theorem RSet.plain {L : Bs} {t : T} {ns : List Int} (hno : ∀ x, ¬ t.hasV x) (nd : ns.Nodup) (inr : ∀ x ∈ ns, 0 ≤ x ∧ x < 1000) : RSet L t ns ns :=
  ⟨fun _ h => h, fun _ h => .inl h, fun x hx => absurd hx (hno x), fun _ h h' => absurd h h', nd, inr⟩
/-- From nothing: what is gathered is what is within. -/
theorem RSet.all {L : Bs} {t : T} {ns : List Int} (h : RSet L t [] ns) (n : Int) : n ∈ ns ↔ Reach L n t := by
  refine ⟨fun hn => by
    rcases h.rch n hn with h1 | h1
    · exact absurd h1 List.not_mem_nil
    · exact h1, fun hr => ?_⟩
  have key : ∀ {u : T}, Reach L n u → (∀ x, u.hasV x → x ∈ ns) → n ∈ ns := by
    intro u hu
    induction hu with
    | var e => exact fun h1 => h1 n (var_has e)
    | bind e hf _ ih => exact fun h1 => ih fun x hx => h.clo _ (h1 _ (var_has e)) List.not_mem_nil _ hf x hx
    | arg hi _ ih => exact fun h1 => ih fun x hx => h1 x (.inr ⟨rfl, _, hi, hx⟩)
  exact key hr h.has
end Go.Proofs.Ytgoedlbdnmhppaa
namespace Go.Proofs.Ytgoedlbdnmhppaa
open Go.RowKit

theorem belA {w w1 : World} (h : Below w.heap.size w w1) (o : Obj) : Below w.heap.size w (w1.alloc o) := h.alloc h.size o
theorem bel_drewN {B : Nat} {w w1 : World} (h : Below B w w1) (n : Nat) : Below B w (w1.drewN n) := ⟨h.os, h.tape, h.output, h.size, h.block⟩
theorem Try.info_int8 : (Try.prog.info? 3).map (fun i => (i.zero, i.size, i.bytes)) = some (some (.int .i64 0), 1, 8) := by kernel_rfl
theorem elInt8 : El Try.prog 22 3 (.int .i64 0) 1 8 := by
  obtain ⟨i0, hi, hz0, hz1, hz2⟩ := info_parts Try.info_int8
  exact ⟨Try.underlying22, ⟨i0, hi, hz0, hz1, hz2⟩, rfl, by omega⟩
/-- A row of integers. -/
def IRow (w : World) (v : Value) (ns : List Int) : Prop := w.ownsRow 0 3 1 v ns.length (ns.map (Value.int .i64))
theorem IRow.below {w w' : World} {v : Value} {ns : List Int} (h : IRow w v ns) (hb : Below w.heap.size w w') : IRow w' v ns := own_below h hb
theorem IRow.nil (w : World) : IRow w (.slice none 0 0) [] := World.ownsRow_nil _ _ _ _
theorem IRow.open_ {w : World} {v : Value} {ns : List Int} (h : IRow w v ns) : ∃ A c, v = .slice A ns.length c ∧ ns.length ≤ c ∧ (A = none → c = 0) ∧ ∀ i x, ns[i]? = some x → ∃ g, A = some ⟨g, 0, none⟩ ∧ g < w.heap.size ∧ w.cell? ⟨g, i, none⟩ = some (.int .i64 x) := by
  obtain ⟨A, c, e, h1, h2, _, h3⟩ := own_open h
  refine ⟨A, c, e, h1, h2, fun i x hx => ?_⟩
  have hi : i < ns.length := by
    rcases Nat.lt_or_ge i ns.length with h | h
    · exact h
    · rw [List.getElem?_eq_none h] at hx; cases hx
  obtain ⟨g, cur, rfl, _, hh, hc⟩ := h3 (by omega)
  exact ⟨g, rfl, heap_lt hh, (cell_of_row w g i _ _ _ hh).trans ((hc i (by omega)).trans (by simp [hx]))⟩
def ReachR (L : Bs) (t : T) (ns : List Int) (w : World) (e : Ending) (w' : World) : Prop :=
  (∃ v ns', e = .returned v ∧ IRow w' v ns' ∧ RSet L t ns ns') ∧ Below w.heap.size w w'
def ReachC (r : Int → Nat) (L : Bs) (K : Nat) (t : T) : Prop := ∀ (w : World) (A : Option Addr) (c : Nat) (v mv : Value) (ns : List Int), BL w A c L → TP w (fun _ => True) t v → t.ok → (∀ u, t.hasV u → r u < K) → IRow w mv ns → ns.Nodup → (∀ x ∈ ns, 0 ≤ x ∧ x < 1000) →
  Calls Try.prog 74 #[.slice A L.length c, v, mv] w fun e w' => ReachR L t ns w e w'
set_option maxRecDepth 100000 in
set_option maxHeartbeats 8000000 in
theorem reach_step {r : Int → Nat} {L : Bs} {K : Nat} {t : T} (hL : EnvOk L) (hr : ∀ p ∈ L, ∀ v, p.2.hasV v → r v < r p.1) (ihK : ∀ K' < K, ∀ u, ReachC r L K' u) (ihT : ∀ n' s m a, t = .mk 4 n' s m a → ∀ i, i < m → ReachC r L K (a i)) : ReachC r L K t := by
  intro w A c v mv ns hbl hv ht hrk hm hnd hin
  obtain ⟨k, n, s, A1, m1, c1, rfl⟩ := hv.agg
  obtain ⟨MA, mc, rfl, hmc, hmA, hmx⟩ := hm.open_
  have H := Lib.hid hbl
  have HV := Lib.hid hv
  have HR := Lib.hid hr
  have IK := Lib.hid ihK
  have IT := Lib.hid ihT
  have HRK := Lib.hid hrk
  have HM := Lib.hid hm
  have HMX := Lib.hid hmx
  have HND := Lib.hid hnd
  have HIN := Lib.hid hin
  have hfew := nodup_few 1000 ns hnd hin
  have hbf := hbl.few
  clear hbl hv hr ihK ihT hrk hm hmx hnd hin
  have B0 := Lib.hid ((Below.refl w.heap.size w).alloc (Nat.le_refl _) (Obj.cells #[.int .i64 k, .int .i64 n, .string s, .slice A1 m1 c1] 40))
  cases hk : (k == 1) with
  | true =>
    have hk1 : k = 1 := by simpa using hk
    obtain ⟨hv1, hn0, hn1⟩ := HV.out.kind ht hk1
    have HV1 := Lib.hid hv1
    clear hk1 hv1
    go_enter Try.func74, Try.ntmps74
    go_wp2_with fail
    go_loopw [7] (fun iv wr => ∃ i d : Nat, iv = .int .i64 (i : Int) ∧ i ≤ ns.length ∧ wr = (w.alloc (Obj.cells #[.int .i64 k, .int .i64 n, .string s, .slice A1 m1 c1] 40)).drewN d ∧ ∀ (q : Nat) (x : Int), q < i → ns[q]? = some x → x ≠ n) (fun iv _ => ns.length - (intOf iv).toNat)
    case atStart => exact ⟨0, 0, rfl, Nat.zero_le _, rfl, fun q x hq => absurd hq (by omega)⟩
    case round =>
      obtain ⟨i, d, rfl, hi, rfl, hno⟩ := hrel
      have HN := Lib.hid hno
      clear hno
      by_cases him : i < ns.length
      · have him' : (i : Int) < (ns.length : Int) := by omega
        obtain ⟨x, hx⟩ : ∃ x, ns[i]? = some x := ⟨ns[i]'(by omega), List.getElem?_eq_getElem _⟩
        obtain ⟨g, rfl, hg, hc⟩ := HMX.out i x hx
        have HX := Lib.hid hx
        clear hx
        cases hxn : (x == n) with
        | true =>
          go_wp2_with fail
          go_quiet (fail)
          go_wp2_with fail
          go_ret
          have hmem : n ∈ ns := by
            have : x = n := by simpa using hxn
            rw [← this]; exact List.mem_of_getElem? HX.out
          exact ⟨⟨_, ns, rfl, HM.out.below (bel_drewN (bel_drewN B0.out d) _), RSet.old HV1.out hmem HND.out HIN.out⟩, bel_drewN (bel_drewN B0.out d) _⟩
        | false =>
          have hne : x ≠ n := by simpa using hxn
          have HNE := Lib.hid hne
          clear hne
          go_wp2_with fail
          go_quiet (fail)
          go_wp2_with fail
          go_roundw
          case rel =>
            refine ⟨i + 1, _, by go_num, him, rfl, fun q y hq hy => ?_⟩
            by_cases hqi : q = i
            · subst hqi; rw [HX.out] at hy; injection hy with hy; subst hy; exact HNE.out
            · exact HN.out q y (by omega) hy
          case measure => simp [intOf]; omega
      · obtain rfl : i = ns.length := by omega
        have hnot : n ∉ ns := fun hmem => by
          obtain ⟨q, hq, hqe⟩ := List.getElem_of_mem hmem
          exact HN.out q n hq (by rw [List.getElem?_eq_getElem hq, hqe]) rfl
        have HNOT := Lib.hid hnot
        have B1 := Lib.hid (bel_drewN B0.out d)
        have hs1 := B1.out.size
        clear hnot HN
        obtain ⟨W1, hW1⟩ : ∃ W1, W1 = (w.alloc (Obj.cells #[.int .i64 k, .int .i64 n, .string s, .slice A1 m1 c1] 40)).drewN d := ⟨_, rfl⟩
        have X1 : W1.heap[w.heap.size]? = some (.cells #[.int .i64 k, .int .i64 n, .string s, .slice A1 m1 c1] 40 (0, 0)) := by rw [hW1]; exact heap_alloc_new _ _
        rw [← hW1] at B1 hs1 ⊢
        have HX1 := Lib.hid X1
        have hlt1 := heap_lt X1
        clear X1 hW1
        go_wp2_with (at_builtin; go_must (refine wpList_append_cells _ rfl _ _ _ rfl elInt8 W1.heap.size _ 0 [] rfl (ownsRow_empty _ _ _ _ (heap_alloc_new _ _)) MA ns.length mc (ns.map (Value.int .i64)) rfl hmA hmc (by simp) ?_ ?_ (by omega) (by unfold maxLen; omega) (by simp) ?_))
        · intro h0
          obtain ⟨g, hA, hg, _⟩ := HMX.out 0 (ns[0]'h0) (List.getElem?_eq_getElem h0)
          refine ⟨g, 0, hA, fun j u hu => ?_⟩
          rw [List.getElem?_map] at hu
          cases hj : ns[j]? with
          | none => rw [hj] at hu; cases hu
          | some y =>
            rw [hj] at hu
            injection hu with hu
            subst hu
            obtain ⟨g', hA', hg', hc⟩ := HMX.out j y hj
            rw [hA] at hA'
            injection hA' with hA'
            injection hA' with hA'
            subst hA'
            rw [Nat.zero_add]
            exact ((belA B1.out (Obj.cells #[] 3)).cell (p := ⟨g, j, none⟩) hg).trans hc
        · intro u hu
          obtain ⟨y, _, rfl⟩ := List.mem_map.mp hu
          rfl
        intro v1 w1 hown1 hg1
        have C1 := Lib.hid (show Below W1.heap.size W1 w1 from (belA (Below.refl _ _) (Obj.cells #[] 3)).grown hg1 (by simp) fun k hk => by simp [Value.ownBlock] at hk; omega)
        have O1 := Lib.hid hown1
        have hs2 := C1.out.size
        have X2 := (C1.out.block _ hlt1).trans HX1.out
        have hlt2 := heap_lt X2
        obtain ⟨z0, z1, z2, z3⟩ := box4 X2
        clear hown1 hg1
        go_wp2_with (at_builtin; go_must (refine wpList_push_any _ rfl _ _ _ rfl elInt8 W1.heap.size v1 ns.length _ rfl (own_below O1.out (belA (Below.refl _ _) _)) w1.heap.size 1 [.int .i64 n] rfl rfl ?_ ?_ (by omega) (by unfold maxLen; omega) (by simp; omega) ?_))
        · intro j u hu
          rw [cell_of_row _ _ j _ _ _ (heap_alloc_new _ _)]
          simpa using hu
        · intro u hu
          simp at hu
          subst hu
          rfl
        intro v2 w2 hown2 hb2
        have C2 := Lib.hid (show Below W1.heap.size W1 w2 from (C1.out.alloc C1.out.size (Obj.cells #[.int .i64 n] 3)).trans hb2)
        have I2 := Lib.hid (show IRow w2 v2 (ns ++ [n]) from by
          unfold IRow
          have := ownsRow_more hown2 (Nat.zero_le _)
          simpa using this)
        have B2 := Lib.hid (B1.out.trans (C2.out.mono hs1))
        have hs3 := C2.out.size
        have X3 := (C2.out.block _ hlt1).trans HX1.out
        have hlt3 := heap_lt X3
        clear hown2 hb2 z0 z1 z2 z3 X2
        obtain ⟨z0, z1, z2, z3⟩ := box4 X3
        go_wp2_with fail
        refine (rfind_any H.out n B2.out).mono ?_
        rintro e w3 ⟨⟨q0, q1, q2, qA, qm, qc, rfl, hx⟩, h3⟩
        have HX := Lib.hid hx
        have B3 := Lib.hid (B2.out.trans (h3.mono B2.out.size))
        have B4 := Lib.hid (belA B3.out (Obj.cells #[.int .i64 q0, .int .i64 q1, .string q2, .slice qA qm qc] 40))
        have I4 := Lib.hid ((I2.out.below h3).below (belA (Below.refl _ _) (Obj.cells #[.int .i64 q0, .int .i64 q1, .string q2, .slice qA qm qc] 40)))
        clear hx h3 X3
        cases hf : findB L n with
        | some x =>
          have HF := Lib.hid hf
          have CX := Lib.hid (IK.out (r n) (HRK.out n (var_has HV1.out)) x (w3.alloc (Obj.cells #[.int .i64 q0, .int .i64 q1, .string q2, .slice qA qm qc] 40)) A c (.agg #[.int .i64 q0, .int .i64 q1, .string q2, .slice qA qm qc]) v2 (ns ++ [n]) (H.out.below B4.out) ((HX.out x hf).below B4.out) (hL.find hf).2.2
            (fun u hu => HR.out _ (findB_mem hf) u hu) I4.out (nodup_snoc HND.out HNOT.out) (inr_snoc HIN.out hn0 hn1))
          clear hf
          simp only [Option.isSome]
          go_wp2_with fail
          refine CX.out.mono ?_
          rintro e w5 ⟨⟨v5, ns5, rfl, hi5, hs5⟩, h5⟩
          have I5 := Lib.hid hi5
          have S5 := Lib.hid hs5
          have B5 := Lib.hid (B4.out.trans (h5.mono B4.out.size))
          clear hi5 hs5 h5
          go_wp2_with fail
          go_ret
          exact ⟨⟨_, ns5, rfl, I5.out, RSet.bound HV1.out HF.out S5.out⟩, B5.out⟩
        | none =>
          have HF := Lib.hid hf
          clear hf
          simp only [Option.isSome]
          go_wp2_with fail
          go_ret
          exact ⟨⟨_, _, rfl, I4.out, RSet.unbound HV1.out HNOT.out HF.out HND.out HIN.out hn0 hn1⟩, B4.out⟩
  | false =>
    have hk1 : k ≠ 1 := by simpa using hk
    obtain ⟨ku, nu, su, mu, au, rfl⟩ : ∃ ku nu su mu au, t = .mk ku nu su mu au := by
      have htp := HV.out
      cases t with
      | nil => exact htp.elim
      | mk ku nu su mu au => exact ⟨_, _, _, _, _, rfl⟩
    obtain ⟨a0, a1, a2, rfl, hmc1, hA, _⟩ := HV.out.args
    injection a0 with _ a0
    injection a1 with _ a1
    injection a2 with a2
    subst a0; subst a1; subst a2
    have hfew1 := ht.few
    have hno4 : k ≠ 4 → m1 = 0 := fun h => ht.plain h
    have HNO4 := Lib.hid hno4
    have HK1 := Lib.hid hk1
    clear hk1 hno4
    go_enter Try.func74, Try.ntmps74
    go_wp2_with fail
    go_loopw [2, 11] (fun mv iv wr => ∃ (i : Nat) (n1 : List Int), iv = .int .i64 (i : Int) ∧ i ≤ m1 ∧ IRow wr mv n1 ∧ RArgs L au i ns n1 ∧ Below w.heap.size w wr ∧ wr.heap[w.heap.size]? = some (.cells #[.int .i64 k, .int .i64 n, .string s, .slice A1 m1 c1] 40 (0, 0))) (fun _ iv _ => m1 - (intOf iv).toNat)
    case atStart => exact ⟨0, ns, rfl, Nat.zero_le _, HM.out.below B0.out, RArgs.zero HND.out HIN.out, B0.out, heap_alloc_new _ _⟩
    case round =>
      obtain ⟨i, n1, rfl, hi, hi1, ha1, hb1, hx1⟩ := hrel
      have I1 := Lib.hid hi1
      have A1' := Lib.hid ha1
      have B1 := Lib.hid hb1
      have X1 := Lib.hid hx1
      have hs1 := hb1.size
      have hlt1 := heap_lt hx1
      obtain ⟨x0, x1, x2, x3⟩ := box4 hx1
      clear hi1 ha1 hb1 hx1
      cases hk4 : (k == 4) with
      | false =>
        have hk4' : k ≠ 4 := by simpa using hk4
        have hm0 := HNO4.out hk4'
        have S0 := Lib.hid (show RSet L (.mk k n s m1 au) ns n1 from ⟨A1'.out.sub, fun x hx => (A1'.out.rch x hx).imp id fun ⟨q, hq, _⟩ => absurd hq (by omega), fun x hx => by
          rcases hx with ⟨h, _⟩ | ⟨h, _⟩
          · exact absurd h HK1.out
          · exact absurd h hk4', A1'.out.clo, A1'.out.nd, A1'.out.inr⟩)
        clear hk4' hm0
        go_wp2_with fail
        go_ret
        exact ⟨⟨_, n1, rfl, I1.out, S0.out⟩, B1.out⟩
      | true =>
        have hk4' : k = 4 := by simpa using hk4
        have HK4 := Lib.hid hk4'
        clear hk4'
        by_cases him : i < m1
        · have him' : (i : Int) < (m1 : Int) := by omega
          obtain ⟨_, _, _, _, _, _, hargs⟩ := HV.out.args
          obtain ⟨b, k0, k1, k2, B0', m0, c0, rfl, _, hbl, d0, d1, d2, d3, hti⟩ := hargs i him
          have hbl1 : b < _ := Nat.lt_of_lt_of_le hbl hs1
          have d0 := (B1.out.cell (p := ⟨b, i * 4, none⟩) hbl).trans d0
          have d1 := (B1.out.cell (p := ⟨b, i * 4 + 1, none⟩) hbl).trans d1
          have d2 := (B1.out.cell (p := ⟨b, i * 4 + 2, none⟩) hbl).trans d2
          have d3 := (B1.out.cell (p := ⟨b, i * 4 + 3, none⟩) hbl).trans d3
          have HTI := Lib.hid hti
          have CX := Lib.hid (show ReachC r L K (au i) from by
            have h4 := HK4.out
            subst h4
            exact IT.out _ _ _ _ rfl i him)
          have HRI := Lib.hid (show ∀ u, (au i).hasV u → r u < K from fun u hu => HRK.out u (.inr ⟨HK4.out, i, him, hu⟩))
          clear hti hargs
          go_wp2_with fail
          refine (CX.out _ A c _ _ n1 (H.out.below B1.out) (HTI.out.below B1.out) (ht.arg him) HRI.out I1.out A1'.out.nd A1'.out.inr).mono ?_
          rintro e w5 ⟨⟨v5, n5, rfl, hi5, hs5⟩, h5⟩
          have I5 := Lib.hid hi5
          have S5 := Lib.hid hs5
          have B5 := Lib.hid (B1.out.trans (h5.mono B1.out.size))
          have X5 := Lib.hid ((h5.block _ hlt1).trans X1.out)
          clear hi5 hs5 h5
          go_wp2_with fail
          go_roundw
          case rel => exact ⟨i + 1, n5, by go_num, him, I5.out, A1'.out.succ S5.out, B5.out, X5.out⟩
          case measure => simp [intOf]; omega
        · obtain rfl : i = m1 := by omega
          have S0 := Lib.hid (show RSet L (.mk k n s i au) ns n1 from by
            have h4 := HK4.out
            subst h4
            exact A1'.out.done)
          go_wp2_with fail
          go_ret
          exact ⟨⟨_, n1, rfl, I1.out, S0.out⟩, B1.out⟩
theorem reach_any {r : Int → Nat} {L : Bs} (hL : EnvOk L) (hr : ∀ p ∈ L, ∀ v, p.2.hasV v → r v < r p.1) : ∀ K t, ReachC r L K t := by
  intro K
  induction K using Nat.strongRecOn with
  | _ K ihK =>
    intro t
    induction t with
    | nil => intro w A c v mv ns _ hv; exact hv.elim
    | mk k n' s m a ih => exact reach_step hL hr ihK fun n2 s2 m2 a2 e i _ => by injection e with _ _ _ _ e; subst e; exact ih i
/-- What the reference's occurs answers. -/
def OccR (L : Bs) (n : Int) (t : T) (w : World) (e : Ending) (w' : World) : Prop := (∃ b, e = .returned (.bool b) ∧ (b = true ↔ Reach L n t)) ∧ Below w.heap.size w w'
set_option maxRecDepth 100000 in
set_option maxHeartbeats 4000000 in
theorem roccurs_any {w : World} {A : Option Addr} {c : Nat} {L : Bs} (hbl : BL w A c L) (hL : EnvOk L) {t : T} {v : Value} (hv : TP w (fun _ => True) t v) (ht : t.ok) (n : Int) :
    Calls Try.prog 60 #[.slice A L.length c, .int .i64 n, v] w fun e w' => OccR L n t w e w' := by
  obtain ⟨k, nn, s, A1, m1, c1, rfl⟩ := hv.agg
  obtain ⟨r, hr⟩ := hL.acyc
  obtain ⟨K, hK⟩ := rank_bound r t
  have B0 := Lib.hid ((Below.refl w.heap.size w).alloc (Nat.le_refl _) (Obj.cells #[.int .i64 k, .int .i64 nn, .string s, .slice A1 m1 c1] 40))
  have CX := Lib.hid (reach_any hL hr K t _ A c _ _ [] (hbl.below B0.out) (hv.below B0.out) ht hK (IRow.nil _) List.Pairwise.nil (fun _ h => absurd h List.not_mem_nil))
  clear hr hK hbl hv
  go_enter Try.func60, Try.ntmps60
  go_wp2_with fail
  refine CX.out.mono ?_
  rintro e w5 ⟨⟨v5, ns, rfl, hi5, hs5⟩, h5⟩
  obtain ⟨MA, mc, rfl, hmc, _, hmx⟩ := hi5.open_
  have HMX := Lib.hid hmx
  have HALL := Lib.hid (show ∀ b : Bool, (b = true ↔ n ∈ ns) → (b = true ↔ Reach L n t) from fun b hb => hb.trans (hs5.all n))
  have hfew := nodup_few 1000 ns hs5.nd hs5.inr
  have B5 := Lib.hid (B0.out.trans (h5.mono B0.out.size))
  clear hi5 hmx hs5 h5
  go_wp2_with fail
  go_loop [8] (fun iv => ∃ i : Nat, iv = .int .i64 (i : Int) ∧ i ≤ ns.length ∧ ∀ (q : Nat) (x : Int), q < i → ns[q]? = some x → x ≠ n) (fun iv => ns.length - (intOf iv).toNat)
  case atStart => exact ⟨0, rfl, Nat.zero_le _, fun q x hq => absurd hq (by omega)⟩
  case round =>
    obtain ⟨i, rfl, hi, hno⟩ := hrel
    have HN := Lib.hid hno
    clear hno
    by_cases him : i < ns.length
    · have him' : (i : Int) < (ns.length : Int) := by omega
      obtain ⟨x, hx⟩ : ∃ x, ns[i]? = some x := ⟨ns[i]'(by omega), List.getElem?_eq_getElem _⟩
      obtain ⟨g, rfl, hg, hc⟩ := HMX.out i x hx
      have HX := Lib.hid hx
      clear hx
      cases hxn : (x == n) with
      | true =>
        go_wp2_with fail
        go_ret
        refine ⟨⟨true, rfl, HALL.out true ⟨fun _ => ?_, fun _ => rfl⟩⟩, B5.out⟩
        have : x = n := by simpa using hxn
        rw [← this]; exact List.mem_of_getElem? HX.out
      | false =>
        have hne : x ≠ n := by simpa using hxn
        have HNE := Lib.hid hne
        clear hne
        go_wp2_with fail
        go_round
        case rel =>
          refine ⟨i + 1, by go_num, him, fun q y hq hy => ?_⟩
          by_cases hqi : q = i
          · subst hqi; rw [HX.out] at hy; injection hy with hy; subst hy; exact HNE.out
          · exact HN.out q y (by omega) hy
        case measure => simp [intOf]; omega
    · obtain rfl : i = ns.length := by omega
      go_wp2_with fail
      go_ret
      refine ⟨⟨false, rfl, HALL.out false ⟨(fun h => by cases h), fun hmem => ?_⟩⟩, B5.out⟩
      obtain ⟨q, hq, hqe⟩ := List.getElem_of_mem hmem
      exact absurd rfl (HN.out q n hq (by rw [List.getElem?_eq_getElem hq, hqe]))
end Go.Proofs.Ytgoedlbdnmhppaa
