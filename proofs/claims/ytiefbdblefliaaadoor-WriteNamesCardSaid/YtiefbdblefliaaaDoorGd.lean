/- Depths of terms: both functions. The walks through coneyref07.Depth and term.Depth. Unification on plain terms: bindings, what a term stands for, whether a variable is within it; no program in sight. Bits on rows of integers and on terms' arguments. A term that lies in memory, wherever (given, or made): all its blocks below a bound. -/
import Derived.Test.YtiefbdblefliaaaDoorRd6
import Derived.Test.YtiefbdblefliaaaDoorRd3
import Derived.Deep.QuietTactic
import Derived.BigQuiet
namespace Go.Proofs.YtiefbdblefliaaaDoor
open Go.RowKit

def maxTo : Nat → (Nat → Nat) → Nat
  | 0, _ => 0
  | n + 1, f => max (maxTo n f) (f n)
/-- How many terms a term has within one another. -/
def T.depth : T → Nat
  | .nil => 1
  | .mk k _ _ m a => (if k = 4 then maxTo m fun i => (a i).depth else 0) + 1
theorem maxTo_le {f : Nat → Nat} {i : Nat} : ∀ {n : Nat}, i < n → f i ≤ maxTo n f := by
  intro n
  induction n with
  | zero => intro h; omega
  | succ n ih =>
    intro h
    unfold maxTo
    rcases Nat.lt_or_ge i n with h1 | h1
    · exact Nat.le_trans (ih h1) (Nat.le_max_left _ _)
    · obtain rfl : i = n := by omega
      exact Nat.le_max_right _ _
theorem maxTo_lt {f : Nat → Nat} {c : Nat} : ∀ {n : Nat}, (∀ i, i < n → f i ≤ c) → maxTo n f ≤ c := by
  intro n
  induction n with
  | zero => intro _; exact Nat.zero_le _
  | succ n ih =>
    intro h
    exact Nat.max_le.2 ⟨ih fun i hi => h i (by omega), h n (by omega)⟩
theorem maxTo_mono {n q : Nat} (f : Nat → Nat) (h : q ≤ n) : maxTo q f ≤ maxTo n f := maxTo_lt fun i hi => maxTo_le (by omega)
theorem sumTo_one {n : Nat} {f : Nat → Nat} {i : Nat} (h : i < n) : f i ≤ sumTo n f := by
  induction n with
  | zero => omega
  | succ n ih =>
    simp only [sumTo]
    rcases Nat.lt_or_ge i n with h1 | h1
    · have := ih h1; omega
    · obtain rfl : i = n := by omega
      omega
theorem depth_nodes : ∀ {t : T}, t.depth ≤ t.nodes + 1
  | .nil => by simp [T.depth, T.nodes]
  | .mk k n s m a => by
    simp only [T.depth, T.nodes]
    split
    · have : maxTo m (fun i => (a i).depth) ≤ 1 + sumTo m fun i => (a i).nodes := maxTo_lt fun i hi => by
        have h1 := depth_nodes (t := a i)
        have h2 := sumTo_one (f := fun i => (a i).nodes) hi
        omega
      omega
    · omega
end Go.Proofs.YtiefbdblefliaaaDoor
namespace Go.Proofs.YtiefbdblefliaaaDoor
open Go.RowKit

theorem TIn.posN {w : World} {B : Nat} {t : T} {v : Value} (h : TIn w B t v) : 0 < t.nodes := by
  cases t with
  | nil => exact h.elim
  | mk k n s m a => simp only [T.nodes]; omega
theorem sum_ones : ∀ (m : Nat) (f : Nat → Nat), (∀ i, i < m → 0 < f i) → m ≤ sumTo m f
  | 0, _, _ => Nat.zero_le _
  | m + 1, f, h => by
    simp only [sumTo]
    have := sum_ones m f fun i hi => h i (by omega)
    have := h m (by omega)
    omega
theorem TAt.fewN {w : World} {B : Nat} {k n : Int} {s : ByteArray} {m : Nat} {a : Nat → T} {A : Option Addr} {c : Nat} (h : TAt w B k n s m a A c) : m ≤ sumTo m fun i => (a i).nodes := by
  rcases Nat.eq_zero_or_pos m with h0 | h0
  · omega
  · obtain ⟨b, off, _, _, hc⟩ := h.cells h0
    exact sum_ones _ _ fun i hi => by
      obtain ⟨_, _, _, _, _, _, _, _, ht⟩ := hc i hi
      exact ht.posN
theorem depth_cmp {k n : Int} {s : ByteArray} {m : Nat} {a : Nat → T} (h : (k == 4) = true) : (T.mk k n s m a).depth = maxTo m (fun i => (a i).depth) + 1 := by
  simp only [T.depth]; rw [if_pos (by simpa using h)]
theorem depth_leaf {k n : Int} {s : ByteArray} {m : Nat} {a : Nat → T} (h : (k == 4) = false) : (T.mk k n s m a).depth = 1 := by
  simp only [T.depth]; rw [if_neg (by simpa using h)]
theorem maxTo_succ {f : Nat → Nat} {i z : Nat} (h : z = maxTo i f) : max z (f i) = maxTo (i + 1) f := by rw [h]; rfl
end Go.Proofs.YtiefbdblefliaaaDoor
namespace Go.Proofs.YtiefbdblefliaaaDoor
open Go.RowKit

abbrev Bs := List (Int × T)
def findB : Bs → Int → Option T
  | [], _ => none
  | (k, x) :: L, n => if k = n then some x else findB L n
def T.var? : T → Option Int
  | .nil => none
  | .mk k n _ _ _ => if k = 1 then some n else none
/-- Has a term this variable in it? -/
def T.hasV (v : Int) : T → Prop
  | .nil => False
  | .mk k n _ m a => (k = 1 ∧ n = v) ∨ (k = 4 ∧ ∃ i, i < m ∧ (a i).hasV v)
/-- A term as a text tells it, of at most 4000 parts. -/
def T.ok (t : T) : Prop := t.good ∧ t.nodes ≤ 4000
theorem sumTo_ge0 (n : Nat) (f : Nat → Nat) (i : Nat) (hi : i < n) : f i ≤ sumTo n f := by
  induction n with
  | zero => omega
  | succ n ih =>
    simp only [sumTo]
    rcases Nat.lt_or_ge i n with h | h
    · have := ih h; omega
    · obtain rfl : i = n := by omega
      omega
theorem T.ok.arg {k n : Int} {s : ByteArray} {m : Nat} {a : Nat → T} (h : (T.mk k n s m a).ok) {i : Nat} (hi : i < m) : (a i).ok :=
  ⟨h.1.2 i hi, by have := sumTo_ge0 m (fun i => (a i).nodes) i hi; have h2 := h.2; simp only [T.nodes] at h2; omega⟩
theorem T.good.pos : ∀ {t : T}, t.good → 0 < t.nodes
  | .nil, h => h.elim
  | .mk _ _ _ _ _, _ => by simp only [T.nodes]; omega
theorem sumTo_ones0 (n : Nat) (f : Nat → Nat) (h : ∀ i, i < n → 0 < f i) : n ≤ sumTo n f := by
  induction n with
  | zero => omega
  | succ n ih =>
    have := ih fun i hi => h i (by omega)
    have := h n (by omega)
    simp only [sumTo]
    omega
theorem T.ok.few {k n : Int} {s : ByteArray} {m : Nat} {a : Nat → T} (h : (T.mk k n s m a).ok) : m < 4000 := by
  have := sumTo_ones0 m (fun i => (a i).nodes) fun i hi => (h.1.2 i hi).pos
  have h2 := h.2
  simp only [T.nodes] at h2
  omega
theorem T.ok.var {k n : Int} {s : ByteArray} {m : Nat} {a : Nat → T} (h : (T.mk k n s m a).ok) (hk : k = 1) : 0 ≤ n ∧ n < 1000 ∧ s = ⟨#[]⟩ ∧ m = 0 := by
  rcases h.1.1 with h | h | h | h
  · exact ⟨h.2.1, h.2.2.1, h.2.2.2.1, h.2.2.2.2⟩
  all_goals omega
theorem T.ok.plain {k n : Int} {s : ByteArray} {m : Nat} {a : Nat → T} (h : (T.mk k n s m a).ok) (hk : k ≠ 4) : m = 0 := by
  rcases h.1.1 with h | h | h | h
  · exact h.2.2.2.2
  · exact h.2.2.2
  · exact h.2.2.2
  · omega

/-- Bindings as they come about: each variable once; no variable within what it is bound to. -/
structure EnvOk (L : Bs) : Prop where
  nd : (L.map Prod.fst).Nodup
  ok : ∀ p ∈ L, 0 ≤ p.1 ∧ p.1 < 1000 ∧ p.2.ok
  acyc : ∃ r : Int → Nat, ∀ p ∈ L, ∀ v, p.2.hasV v → r v < r p.1
theorem EnvOk.nil : EnvOk [] := ⟨List.Pairwise.nil, fun _ h => absurd h List.not_mem_nil, fun _ => 0, fun _ h => absurd h List.not_mem_nil⟩
theorem findB_mem {L : Bs} {n : Int} {x : T} (h : findB L n = some x) : (n, x) ∈ L := by
  induction L with
  | nil => cases h
  | cons p L ih =>
    obtain ⟨k, y⟩ := p
    unfold findB at h
    split at h
    · rename_i e; injection h with h; subst e; subst h; exact List.mem_cons_self
    · exact List.mem_cons_of_mem _ (ih h)
theorem findB_none {L : Bs} {n : Int} (h : findB L n = none) : ∀ p ∈ L, p.1 ≠ n := by
  induction L with
  | nil => intro p hp; cases hp
  | cons q L ih =>
    obtain ⟨k, y⟩ := q
    unfold findB at h
    split at h
    · cases h
    · rename_i e
      intro p hp
      rcases List.mem_cons.mp hp with rfl | hp
      · exact e
      · exact ih h p hp
theorem findB_of_mem {L : Bs} (hnd : (L.map Prod.fst).Nodup) {k : Int} {x : T} (h : (k, x) ∈ L) : findB L k = some x := by
  induction L with
  | nil => exact absurd h List.not_mem_nil
  | cons q L ih =>
    obtain ⟨k', y⟩ := q
    rw [List.map_cons, List.nodup_cons] at hnd
    unfold findB
    rcases List.mem_cons.mp h with e | h
    · injection e with e1 e2; subst e1; subst e2; simp
    · have hne : k' ≠ k := fun e => hnd.1 (List.mem_map.mpr ⟨_, h, e.symm⟩)
      rw [if_neg hne]
      exact ih hnd.2 h
theorem findB_append (L : Bs) (n : Int) (t : T) (m : Int) : findB (L ++ [(n, t)]) m = match findB L m with | some x => some x | none => if n = m then some t else none := by
  induction L with
  | nil => simp [findB]
  | cons p L ih =>
    obtain ⟨k, y⟩ := p
    simp only [List.cons_append, findB]
    by_cases e : k = m
    · simp [e]
    · simp only [if_neg e]; exact ih
theorem EnvOk.find {L : Bs} (h : EnvOk L) {n : Int} {x : T} (hf : findB L n = some x) : 0 ≤ n ∧ n < 1000 ∧ x.ok := h.ok _ (findB_mem hf)

/-! What a term stands for. -/
def stepW (L : Bs) (t : T) : T := match t.var? with
  | some n => (match findB L n with | some x => x | none => t)
  | none => t
def walkF (L : Bs) : Nat → T → T
  | 0, t => t
  | j + 1, t => stepW L (walkF L j t)
def doneW (L : Bs) (t : T) : Prop := ∀ n, t.var? = some n → findB L n = none
theorem stepW_done {L : Bs} {t : T} (h : doneW L t) : stepW L t = t := by
  unfold stepW
  split
  · rename_i n hn; rw [h n hn]
  · rfl
theorem walkF_more {L : Bs} {t : T} {i : Nat} (h : doneW L (walkF L i t)) : ∀ j, i ≤ j → walkF L j t = walkF L i t := by
  intro j hj
  induction j with
  | zero => obtain rfl : i = 0 := by omega
            rfl
  | succ j ih =>
    rcases Nat.lt_or_ge j i with h1 | h1
    · obtain rfl : i = j + 1 := by omega
      rfl
    · simp only [walkF]; rw [ih h1]; exact stepW_done h
theorem walkF_comm (L : Bs) (t : T) : ∀ j, walkF L (j + 1) t = walkF L j (stepW L t) := by
  intro j
  induction j with
  | zero => rfl
  | succ j ih => simp only [walkF] at ih ⊢; rw [ih]
def cntR (L : Bs) (r : Int → Nat) (k : Nat) : Nat := (L.filter fun p => decide (r p.1 < k)).length
theorem cntR_le (L : Bs) (r : Int → Nat) (k : Nat) : cntR L r k ≤ L.length := List.length_filter_le _ _
theorem cntR_mono (L : Bs) (r : Int → Nat) {k k' : Nat} (h : k ≤ k') : cntR L r k ≤ cntR L r k' := by
  unfold cntR
  induction L with
  | nil => simp
  | cons p L ih =>
    simp only [List.filter_cons]
    by_cases h1 : r p.1 < k
    · have h2 : r p.1 < k' := by omega
      simp [h1, h2]; exact ih
    · by_cases h2 : r p.1 < k'
      · simp [h1, h2]; omega
      · simp [h1, h2]; exact ih
theorem cntR_lt (L : Bs) (r : Int → Nat) {p : Int × T} (hp : p ∈ L) : cntR L r (r p.1) < cntR L r (r p.1 + 1) := by
  unfold cntR
  induction L with
  | nil => cases hp
  | cons q L ih =>
    simp only [List.filter_cons]
    rcases List.mem_cons.mp hp with rfl | hp
    · have := cntR_mono L r (k := r p.1) (k' := r p.1 + 1) (by omega)
      unfold cntR at this
      simp; omega
    · have := ih hp
      by_cases h1 : r q.1 < r p.1
      · have h2 : r q.1 < r p.1 + 1 := by omega
        simp [h1, h2]; omega
      · by_cases h2 : r q.1 < r p.1 + 1
        · simp [h1, h2]; omega
        · simp [h1, h2]; omega
theorem var_iff {k n n' : Int} {s : ByteArray} {m : Nat} {a : Nat → T} : (T.mk k n s m a).var? = some n' ↔ k = 1 ∧ n = n' := by
  unfold T.var?
  by_cases h : k = 1
  · simp [h]
  · simp [h]
theorem var_has {t : T} {n : Int} (h : t.var? = some n) : t.hasV n := by
  cases t with
  | nil => cases h
  | mk k n' s m a => exact .inl (var_iff.mp h)
theorem walkF_done {L : Bs} {r : Int → Nat} (hr : ∀ p ∈ L, ∀ v, p.2.hasV v → r v < r p.1) : ∀ (f : Nat) (t : T), (∀ n, t.var? = some n → cntR L r (r n + 1) ≤ f) → doneW L (walkF L f t) := by
  intro f
  induction f with
  | zero =>
    intro t h n hn
    have h0 := h n hn
    cases hx : findB L n with
    | none => rfl
    | some x => have := cntR_lt L r (findB_mem hx); simp only at this; omega
  | succ f ih =>
    intro t h
    by_cases hd : doneW L t
    · rw [walkF_more (i := 0) (show doneW L (walkF L 0 t) from hd) (f + 1) (by omega)]
      exact hd
    · rw [walkF_comm]
      have hd' : ∃ n x, t.var? = some n ∧ findB L n = some x := by
        apply Classical.byContradiction
        intro hno
        apply hd
        intro n hn
        cases hx : findB L n with
        | none => rfl
        | some x => exact absurd ⟨n, x, hn, hx⟩ hno
      obtain ⟨n', x, hn', hx⟩ := hd'
      have hs : stepW L t = x := by unfold stepW; rw [hn']; simp only [hx]
      rw [hs]
      refine ih _ fun n hn => ?_
      have h0 := h n' hn'
      have h1 := hr _ (findB_mem hx) n (var_has hn)
      have h2 := cntR_lt L r (findB_mem hx)
      have h3 := cntR_mono L r (k := r n + 1) (k' := r n') h1
      simp only at h2
      omega
/-- What a term stands for. -/
def walkN (L : Bs) (t : T) : T := walkF L L.length t
theorem EnvOk.walk_done {L : Bs} (h : EnvOk L) (t : T) : doneW L (walkN L t) := by
  obtain ⟨r, hr⟩ := h.acyc
  exact walkF_done hr _ t fun n _ => cntR_le L r _
theorem walkN_eq {L : Bs} (h : EnvOk L) {t : T} {j : Nat} (hd : doneW L (walkF L j t)) : walkN L t = walkF L j t := by
  unfold walkN
  rcases Nat.lt_or_ge j L.length with h1 | h1
  · exact walkF_more hd _ (by omega)
  · exact (walkF_more (h.walk_done t) j h1).symm
theorem EnvOk.not_done {L : Bs} (h : EnvOk L) {t : T} {j : Nat} (hj : L.length ≤ j) : doneW L (walkF L j t) := by
  rw [walkF_more (h.walk_done t) j hj]; exact h.walk_done t
theorem EnvOk.step_ok {L : Bs} (h : EnvOk L) {t : T} (ht : t.ok) : (stepW L t).ok := by
  unfold stepW
  split
  · split
    · rename_i n _ x hx; exact (h.find hx).2.2
    · exact ht
  · exact ht
theorem EnvOk.walkF_ok {L : Bs} (h : EnvOk L) {t : T} (ht : t.ok) : ∀ j, (walkF L j t).ok
  | 0 => ht
  | j + 1 => h.step_ok (h.walkF_ok ht j)
theorem EnvOk.walk_ok {L : Bs} (h : EnvOk L) {t : T} (ht : t.ok) : (walkN L t).ok := h.walkF_ok ht _

/-! Whether a variable is within a term, once resolved. -/
inductive Reach (L : Bs) (n : Int) : T → Prop
  | var {t : T} : t.var? = some n → Reach L n t
  | bind {t : T} {m : Int} {x : T} : t.var? = some m → findB L m = some x → Reach L n x → Reach L n t
  | arg {n' : Int} {s : ByteArray} {m : Nat} {a : Nat → T} {i : Nat} : i < m → Reach L n (a i) → Reach L n (.mk 4 n' s m a)
theorem reach_var {L : Bs} {n k : Int} {t t' : T} (h : t.var? = some k) (h' : t'.var? = some k) (hr : Reach L n t) : Reach L n t' := by
  cases hr with
  | var e => rw [h] at e; injection e with e; subst e; exact .var h'
  | bind e hf hx => rw [h] at e; injection e with e; subst e; exact .bind h' hf hx
  | arg hi hx => rw [var_iff] at h; exact absurd h.1 (by decide)
theorem reach_of_has {L : Bs} {n v : Int} {x : T} (hx : x.var? = some v) (hr : Reach L n x) : ∀ {t : T}, t.hasV v → Reach L n t := by
  intro t
  induction t with
  | nil => exact fun h => h.elim
  | mk k n' s m a ih =>
    rintro (h | ⟨h4, i, hi, h⟩)
    · exact reach_var hx (var_iff.mpr h) hr
    · subst h4; exact .arg hi (ih i h)
theorem reach_has {L : Bs} {n : Int} {t : T} (h : Reach L n t) : ∃ v x, t.hasV v ∧ x.var? = some v ∧ Reach L n x := by
  induction h with
  | var e => exact ⟨n, _, var_has e, e, .var e⟩
  | bind e hf hx _ => exact ⟨_, _, var_has e, e, .bind e hf hx⟩
  | arg hi _ ih => obtain ⟨v, x, h1, h2, h3⟩ := ih; exact ⟨v, x, .inr ⟨rfl, _, hi, h1⟩, h2, h3⟩
def varT (n : Int) : T := .mk 1 n ⟨#[]⟩ 0 fun _ => .nil
theorem varT_var (n : Int) : (varT n).var? = some n := rfl
/-- Variables of a term have ranks below a bound. -/
theorem rank_bound (r : Int → Nat) : ∀ t : T, ∃ K, ∀ v, t.hasV v → r v < K := by
  intro t
  induction t with
  | nil => exact ⟨0, fun _ h => h.elim⟩
  | mk k n s m a ih =>
    have key : ∀ q, ∃ K, ∀ i, i < q → ∀ v, (a i).hasV v → r v < K := by
      intro q
      induction q with
      | zero => exact ⟨0, fun i hi => absurd hi (by omega)⟩
      | succ q ihq =>
        obtain ⟨K1, h1⟩ := ihq
        obtain ⟨K2, h2⟩ := ih q
        refine ⟨max K1 K2, fun i hi v hv => ?_⟩
        rcases Nat.lt_or_ge i q with h | h
        · have := h1 i h v hv; omega
        · obtain rfl : i = q := by omega
          have := h2 v hv; omega
    obtain ⟨K, hK⟩ := key m
    refine ⟨max (r n + 1) K, fun v hv => ?_⟩
    rcases hv with ⟨_, rfl⟩ | ⟨_, i, hi, hv⟩
    · omega
    · have := hK i hi v hv; omega
/-- A new binding. -/
theorem EnvOk.bind {L : Bs} (h : EnvOk L) {n : Int} {t : T} (hn : findB L n = none) (h0 : 0 ≤ n) (h1 : n < 1000) (ht : t.ok) (hno : ¬ Reach L n t) : EnvOk (L ++ [(n, t)]) := by
  obtain ⟨r, hr⟩ := h.acyc
  obtain ⟨K, hK⟩ := rank_bound r t
  refine ⟨?_, fun p hp => ?_, ?_⟩
  · rw [List.map_append, List.nodup_append]
    refine ⟨h.nd, by simp, fun a ha b hb => ?_⟩
    obtain ⟨p, hp, rfl⟩ := List.mem_map.mp ha
    simp at hb
    subst hb
    exact findB_none hn p hp
  · rcases List.mem_append.mp hp with hp | hp
    · exact h.ok p hp
    · simp at hp; subst hp; exact ⟨h0, h1, ht⟩
  · refine ⟨fun v => r v + @ite _ (Reach L n (varT v)) (Classical.propDecidable _) (K + 1) 0, fun p hp v hv => ?_⟩
    rcases List.mem_append.mp hp with hp | hp
    · have hlt := hr p hp v hv
      by_cases hv1 : Reach L n (varT v)
      · have hp1 : Reach L n (varT p.1) := by
          obtain ⟨k, x⟩ := p
          exact .bind (varT_var k) (findB_of_mem h.nd hp) (reach_of_has (varT_var v) hv1 hv)
        simp only [if_pos hv1, if_pos hp1]
        omega
      · simp only [if_neg hv1]
        omega
    · simp at hp
      subst hp
      have hv1 : ¬ Reach L n (varT v) := fun hr1 => hno (reach_of_has (varT_var v) hr1 hv)
      have hn1 : Reach L n (varT n) := .var (varT_var n)
      have := hK v hv
      simp only [if_neg hv1, if_pos hn1]
      omega
end Go.Proofs.YtiefbdblefliaaaDoor
namespace Go.Proofs.YtiefbdblefliaaaDoor
open Go.RowKit

/-- A list of different numbers below n is no longer than n. -/
theorem nodup_few : ∀ (n : Nat) (l : List Int), l.Nodup → (∀ i ∈ l, 0 ≤ i ∧ i < (n : Int)) → l.length ≤ n := by
  intro n
  induction n with
  | zero =>
    intro l _ h
    cases l with
    | nil => simp
    | cons a l => have := h a List.mem_cons_self; omega
  | succ n ih =>
    intro l hl h
    have h1 := ih (l.erase (n : Int)) (hl.erase _) fun i hi => by
      have h2 := h i (List.mem_of_mem_erase hi)
      have h3 : i ≠ (n : Int) := fun e => by rw [e] at hi; exact (hl.not_mem_erase hi)
      omega
    have := List.length_erase (a := (n : Int)) (l := l)
    split at this <;> omega
theorem belA {w w1 : World} (h : Below w.heap.size w w1) (o : Obj) : Below w.heap.size w (w1.alloc o) := h.alloc h.size o
theorem bel_drewN {B : Nat} {w w1 : World} (h : Below B w w1) (n : Nat) : Below B w (w1.drewN n) := ⟨h.os, h.tape, h.output, h.size, h.block⟩
theorem Tryd.info_int8 : (Tryd.prog.info? 3).map (fun i => (i.zero, i.size, i.bytes)) = some (some (.int .i64 0), 1, 8) := by kernel_rfl
theorem elInt8 : El Tryd.prog 40 3 (.int .i64 0) 1 8 := by
  obtain ⟨i0, hi, hz0, hz1, hz2⟩ := info_parts Tryd.info_int8
  exact ⟨Tryd.underlying40, ⟨i0, hi, hz0, hz1, hz2⟩, rfl, by omega⟩
/-- A row of integers. -/
def IRow (w : World) (v : Value) (ns : List Int) : Prop := w.ownsRow 0 3 1 v ns.length (ns.map (Value.int .i64))
theorem IRow.below {w w' : World} {v : Value} {ns : List Int} (h : IRow w v ns) (hb : Below w.heap.size w w') : IRow w' v ns := own_below h hb
theorem IRow.nil (w : World) : IRow w (.slice none 0 0) [] := World.ownsRow_nil _ _ _ _
theorem IRow.open_ {w : World} {v : Value} {ns : List Int} (h : IRow w v ns) : ∃ A c, v = .slice A ns.length c ∧ ns.length ≤ c ∧ (A = none → c = 0) ∧ ∀ i x, ns[i]? = some x → ∃ g, A = some ⟨g, 0, none⟩ ∧ g < w.heap.size ∧ w.cell? ⟨g, i, none⟩ = some (.int .i64 x) := by
  obtain ⟨A, c, e, h1, h2, _, h3⟩ := own_open h
  refine ⟨A, c, e, h1, h2, fun i x hx => ?_⟩
  have hi : i < ns.length := by
    rcases Nat.lt_or_ge i ns.length with h | h
    · exact h
    · rw [List.getElem?_eq_none h] at hx; cases hx
  obtain ⟨g, cur, rfl, _, hh, hc⟩ := h3 (by omega)
  exact ⟨g, rfl, heap_lt hh, (cell_of_row w g i _ _ _ hh).trans ((hc i (by omega)).trans (by simp [hx]))⟩
/-- A term's arguments, by its blocks. -/
theorem TP.args {w : World} {S : Nat → Prop} {k n : Int} {s : ByteArray} {m : Nat} {a : Nat → T} {v0 v1 v2 : Value} {A : Option Addr} {m' c : Nat} (h : TP w S (.mk k n s m a) (.agg #[v0, v1, v2, .slice A m' c])) :
    v0 = .int .i64 k ∧ v1 = .int .i64 n ∧ v2 = .string s ∧ m' = m ∧ m ≤ c ∧ (A = none → c = 0) ∧ ∀ i, i < m → ∃ (b : Nat) (k0 k1 : Int) (k2 : ByteArray) (A0 : Option Addr) (m0 c0 : Nat), A = some ⟨b, 0, none⟩ ∧ S b ∧ b < w.heap.size ∧ w.cell? ⟨b, i * 4, none⟩ = some (.int .i64 k0) ∧ w.cell? ⟨b, i * 4 + 1, none⟩ = some (.int .i64 k1) ∧
      w.cell? ⟨b, i * 4 + 2, none⟩ = some (.string k2) ∧ w.cell? ⟨b, i * 4 + 3, none⟩ = some (.slice A0 m0 c0) ∧ TP w S (a i) (.agg #[.int .i64 k0, .int .i64 k1, .string k2, .slice A0 m0 c0]) := by
  obtain ⟨A', c', e, hmc, hA, hx⟩ := h
  injection e with e
  simp only [Array.mk.injEq, List.cons.injEq, and_true] at e
  obtain ⟨rfl, rfl, rfl, e⟩ := e
  injection e with e1 e2 e3
  subst e1; subst e2; subst e3
  refine ⟨rfl, rfl, rfl, rfl, hmc, hA, fun i hi => ?_⟩
  obtain ⟨b, cs, f, rfl, hS, hb, hc⟩ := hx (by omega)
  obtain ⟨v0, v1, v2, v3, c0, c1, c2, c3, ht⟩ := hc i hi
  obtain ⟨k0, k1, k2, A0, m0, c0', he⟩ := ht.agg
  injection he with he
  simp only [Array.mk.injEq, List.cons.injEq, and_true] at he
  obtain ⟨rfl, rfl, rfl, rfl⟩ := he
  have hr := fun (j : Nat) => cell_of_row w b j _ _ _ hb
  rw [Nat.mul_comm 4 i] at c0 c1 c2 c3
  exact ⟨b, k0, k1, k2, A0, m0, c0', rfl, hS, heap_lt hb, (hr _).trans c0, (hr _).trans c1, (hr _).trans c2, (hr _).trans c3, ht⟩
end Go.Proofs.YtiefbdblefliaaaDoor
namespace Go.Proofs.YtiefbdblefliaaaDoor
open Go.RowKit

structure GT (w : World) (S : Nat) (t : T) (v : Value) : Prop where
  sz : S ≤ w.heap.size
  tin : TIn w S t v
theorem GT.of {w : World} {t : T} {v : Value} (h : TIn w w.heap.size t v) : GT w w.heap.size t v := ⟨Nat.le_refl _, h⟩
theorem TP.gt {w : World} {S : Nat → Prop} {t : T} {v : Value} (h : TP w S t v) : GT w w.heap.size t v := .of h.tin
theorem GT.low {w w' : World} {S B : Nat} {t : T} {v : Value} (h : GT w S t v) (hS : S ≤ B) (hb : Below B w w') : GT w' S t v := ⟨Nat.le_trans h.sz hb.size, h.tin.below (hb.mono hS)⟩
theorem GT.below {w w' : World} {S : Nat} {t : T} {v : Value} (h : GT w S t v) (hb : Below w.heap.size w w') : GT w' S t v := h.low h.sz hb
theorem GT.more {w : World} {S S' : Nat} {t : T} {v : Value} (h : GT w S t v) (h1 : S ≤ S') (h2 : S' ≤ w.heap.size) : GT w S' t v := ⟨h2, h.tin.more h1⟩
theorem TIn.agg {w : World} {B : Nat} {t : T} {v : Value} (h : TIn w B t v) : ∃ k n s A m c, v = .agg #[.int .i64 k, .int .i64 n, .string s, .slice A m c] := by
  cases t with
  | nil => exact h.elim
  | mk k n s m a => obtain ⟨A, c, rfl, _⟩ := h; exact ⟨_, _, _, _, _, _, rfl⟩
theorem GT.agg {w : World} {S : Nat} {t : T} {v : Value} (h : GT w S t v) : ∃ k n s A m c, v = .agg #[.int .i64 k, .int .i64 n, .string s, .slice A m c] := h.tin.agg
theorem GT.args {w : World} {S : Nat} {k n : Int} {s : ByteArray} {m : Nat} {a : Nat → T} {v0 v1 v2 : Value} {A : Option Addr} {m' c : Nat} (h : GT w S (.mk k n s m a) (.agg #[v0, v1, v2, .slice A m' c])) :
    v0 = .int .i64 k ∧ v1 = .int .i64 n ∧ v2 = .string s ∧ m' = m ∧ m ≤ c ∧ (A = none → c = 0) ∧ ∀ i, i < m → ∃ (b o : Nat) (k0 k1 : Int) (k2 : ByteArray) (A0 : Option Addr) (m0 c0 : Nat), A = some ⟨b, o, none⟩ ∧ b < S ∧ b < w.heap.size ∧ w.cell? ⟨b, o + i * 4, none⟩ = some (.int .i64 k0) ∧ w.cell? ⟨b, o + i * 4 + 1, none⟩ = some (.int .i64 k1) ∧
      w.cell? ⟨b, o + i * 4 + 2, none⟩ = some (.string k2) ∧ w.cell? ⟨b, o + i * 4 + 3, none⟩ = some (.slice A0 m0 c0) ∧ GT w S (a i) (.agg #[.int .i64 k0, .int .i64 k1, .string k2, .slice A0 m0 c0]) := by
  obtain ⟨A', c', e, hmc, hA, hx⟩ := h.tin
  injection e with e
  simp only [Array.mk.injEq, List.cons.injEq, and_true] at e
  obtain ⟨rfl, rfl, rfl, e⟩ := e
  injection e with e1 e2 e3
  subst e1; subst e2; subst e3
  refine ⟨rfl, rfl, rfl, rfl, hmc, hA, fun i hi => ?_⟩
  obtain ⟨b, o, rfl, hb, hc⟩ := hx (by omega)
  obtain ⟨v0, v1, v2, v3, c0, c1, c2, c3, ht⟩ := hc i hi
  obtain ⟨k0, k1, k2, A0, m0, c0', he⟩ := ht.agg
  injection he with he
  simp only [Array.mk.injEq, List.cons.injEq, and_true] at he
  obtain ⟨rfl, rfl, rfl, rfl⟩ := he
  rw [Nat.mul_comm 4 i] at c0 c1 c2 c3
  exact ⟨b, o, k0, k1, k2, A0, m0, c0', rfl, hb, Nat.lt_of_lt_of_le hb h.sz, c0, c1, c2, c3, h.sz, ht⟩
end Go.Proofs.YtiefbdblefliaaaDoor
