/- Unification on plain terms: bindings, what a term stands for, whether a variable is within it; no program in sight. Bits on rows of integers and on terms' arguments. The variables of a term, each once, by where they come first: plain. Instructions of a clause, plain: what both coders lay down; how its slots are numbered. -/
import Derived.Test.YtibcpdmeigdgpaaGreatDoorKHb
import Derived.Test.YtibcpdmeigdgpaaGreatDoorKHa
import Derived.Deep.QuietTactic
import Derived.BigQuiet
namespace Go.Proofs.YtibcpdmeigdgpaaGreatDoor
open Go.RowKit
abbrev Bs := List (Int × T)
def findB : Bs → Int → Option T
 | [], _ => none
 | (k, x) :: L, n => if k = n then some x else findB L n
def T.var? : T → Option Int
 | .nil => none
 | .mk k n _ _ _ => if k = 1 then some n else none
def T.hasV (v : Int) : T → Prop
 | .nil => False
 | .mk k n _ m a => (k = 1 ∧ n = v) ∨ (k = 4 ∧ ∃ i, i < m ∧ (a i).hasV v)
def T.ok (t : T) : Prop := t.good ∧ t.nodes ≤ 4000
theorem sumTo_ge0 (n : Nat) (f : Nat → Nat) (i : Nat) (hi : i < n) : f i ≤ sumTo n f := by
 induction n with
 | zero => omega
 | succ n ih =>
  simp only [sumTo]
  rcases Nat.lt_or_ge i n with h | h
  ·have := ih h; omega
  ·obtain rfl : i = n := by omega
   omega
theorem T.ok.arg {k n : Int} {s : ByteArray} {m : Nat} {a : Nat → T} (h : (T.mk k n s m a).ok) {i : Nat} (hi : i < m) : (a i).ok :=
 ⟨h.1.2 i hi, by have := sumTo_ge0 m (fun i => (a i).nodes) i hi; have h2 := h.2; simp only [T.nodes] at h2; omega⟩
theorem T.good.pos : ∀ {t : T}, t.good → 0 < t.nodes
 | .nil, h => h.elim
 | .mk _ _ _ _ _, _ => by simp only [T.nodes]; omega
theorem sumTo_ones0 (n : Nat) (f : Nat → Nat) (h : ∀ i, i < n → 0 < f i) : n ≤ sumTo n f := by
 induction n with
 | zero => omega
 | succ n ih =>
  have := ih fun i hi => h i (by omega)
  have := h n (by omega)
  simp only [sumTo]
  omega
theorem T.ok.few {k n : Int} {s : ByteArray} {m : Nat} {a : Nat → T} (h : (T.mk k n s m a).ok) : m < 4000 := by
 have := sumTo_ones0 m (fun i => (a i).nodes) fun i hi => (h.1.2 i hi).pos
 have h2 := h.2
 simp only [T.nodes] at h2
 omega
theorem T.ok.var {k n : Int} {s : ByteArray} {m : Nat} {a : Nat → T} (h : (T.mk k n s m a).ok) (hk : k = 1) : 0 ≤ n ∧ n < 1000 ∧ s = ⟨#[]⟩ ∧ m = 0 := by
 rcases h.1.1 with h | h | h | h
 ·exact ⟨h.2.1, h.2.2.1, h.2.2.2.1, h.2.2.2.2⟩
 all_goals omega
theorem T.ok.plain {k n : Int} {s : ByteArray} {m : Nat} {a : Nat → T} (h : (T.mk k n s m a).ok) (hk : k ≠ 4) : m = 0 := by
 rcases h.1.1 with h | h | h | h
 ·exact h.2.2.2.2
 ·exact h.2.2.2
 ·exact h.2.2.2
 ·omega
structure EnvOk (L : Bs) : Prop where
 nd : (L.map Prod.fst).Nodup
 ok : ∀ p ∈ L, 0 ≤ p.1 ∧ p.1 < 1000 ∧ p.2.ok
 acyc : ∃ r : Int → Nat, ∀ p ∈ L, ∀ v, p.2.hasV v → r v < r p.1
theorem EnvOk.nil : EnvOk [] := ⟨List.Pairwise.nil, fun _ h => absurd h List.not_mem_nil, fun _ => 0, fun _ h => absurd h List.not_mem_nil⟩
theorem findB_none {L : Bs} {n : Int} (h : findB L n = none) : ∀ p ∈ L, p.1 ≠ n := by
 induction L with
 | nil => intro p hp; cases hp
 | cons q L ih =>
  obtain ⟨k, y⟩ := q
  unfold findB at h
  split at h
  ·cases h
  ·rename_i e
   intro p hp
   rcases List.mem_cons.mp hp with rfl | hp
   ·exact e
   ·exact ih h p hp
theorem findB_of_mem {L : Bs} (hnd : (L.map Prod.fst).Nodup) {k : Int} {x : T} (h : (k, x) ∈ L) : findB L k = some x := by
 induction L with
 | nil => exact absurd h List.not_mem_nil
 | cons q L ih =>
  obtain ⟨k', y⟩ := q
  rw [List.map_cons, List.nodup_cons] at hnd
  unfold findB
  rcases List.mem_cons.mp h with e | h
  ·injection e with e1 e2; subst e1; subst e2; simp
  ·have hne : k' ≠ k := fun e => hnd.1 (List.mem_map.mpr ⟨_, h, e.symm⟩)
   rw [if_neg hne]
   exact ih hnd.2 h
theorem var_iff {k n n' : Int} {s : ByteArray} {m : Nat} {a : Nat → T} : (T.mk k n s m a).var? = some n' ↔ k = 1 ∧ n = n' := by
 unfold T.var?
 by_cases h : k = 1
 ·simp [h]
 ·simp [h]
inductive Reach (L : Bs) (n : Int) : T → Prop
 | var {t : T} : t.var? = some n → Reach L n t
 | bind {t : T} {m : Int} {x : T} : t.var? = some m → findB L m = some x → Reach L n x → Reach L n t
 | arg {n' : Int} {s : ByteArray} {m : Nat} {a : Nat → T} {i : Nat} : i < m → Reach L n (a i) → Reach L n (.mk 4 n' s m a)
theorem reach_var {L : Bs} {n k : Int} {t t' : T} (h : t.var? = some k) (h' : t'.var? = some k) (hr : Reach L n t) : Reach L n t' := by
 cases hr with
 | var e => rw [h] at e; injection e with e; subst e; exact .var h'
 | bind e hf hx => rw [h] at e; injection e with e; subst e; exact .bind h' hf hx
 | arg hi hx => rw [var_iff] at h; exact absurd h.1 (by decide)
theorem reach_of_has {L : Bs} {n v : Int} {x : T} (hx : x.var? = some v) (hr : Reach L n x) : ∀ {t : T}, t.hasV v → Reach L n t := by
 intro t
 induction t with
 | nil => exact fun h => h.elim
 | mk k n' s m a ih =>
  rintro (h | ⟨h4, i, hi, h⟩)
  ·exact reach_var hx (var_iff.mpr h) hr
  ·subst h4; exact .arg hi (ih i h)
def varT (n : Int) : T := .mk 1 n ⟨#[]⟩ 0 fun _ => .nil
theorem varT_var (n : Int) : (varT n).var? = some n := rfl
theorem rank_bound (r : Int → Nat) : ∀ t : T, ∃ K, ∀ v, t.hasV v → r v < K := by
 intro t
 induction t with
 | nil => exact ⟨0, fun _ h => h.elim⟩
 | mk k n s m a ih =>
  have key : ∀ q, ∃ K, ∀ i, i < q → ∀ v, (a i).hasV v → r v < K := by
   intro q
   induction q with
   | zero => exact ⟨0, fun i hi => absurd hi (by omega)⟩
   | succ q ihq =>
    obtain ⟨K1, h1⟩ := ihq
    obtain ⟨K2, h2⟩ := ih q
    refine ⟨max K1 K2, fun i hi v hv => ?_⟩
    rcases Nat.lt_or_ge i q with h | h
    ·have := h1 i h v hv; omega
    ·obtain rfl : i = q := by omega
     have := h2 v hv; omega
  obtain ⟨K, hK⟩ := key m
  refine ⟨max (r n + 1) K, fun v hv => ?_⟩
  rcases hv with ⟨_, rfl⟩ | ⟨_, i, hi, hv⟩
  ·omega
  ·have := hK i hi v hv; omega
theorem EnvOk.bind {L : Bs} (h : EnvOk L) {n : Int} {t : T} (hn : findB L n = none) (h0 : 0 ≤ n) (h1 : n < 1000) (ht : t.ok) (hno : ¬ Reach L n t) : EnvOk (L ++ [(n, t)]) := by
 obtain ⟨r, hr⟩ := h.acyc
 obtain ⟨K, hK⟩ := rank_bound r t
 refine ⟨?_, fun p hp => ?_, ?_⟩
 ·rw [List.map_append, List.nodup_append]
  refine ⟨h.nd, by simp, fun a ha b hb => ?_⟩
  obtain ⟨p, hp, rfl⟩ := List.mem_map.mp ha
  simp at hb
  subst hb
  exact findB_none hn p hp
 ·rcases List.mem_append.mp hp with hp | hp
  ·exact h.ok p hp
  ·simp at hp; subst hp; exact ⟨h0, h1, ht⟩
 ·refine ⟨fun v => r v + @ite _ (Reach L n (varT v)) (Classical.propDecidable _) (K + 1) 0, fun p hp v hv => ?_⟩
  rcases List.mem_append.mp hp with hp | hp
  ·have hlt := hr p hp v hv
   by_cases hv1 : Reach L n (varT v)
   ·have hp1 : Reach L n (varT p.1) := by
     obtain ⟨k, x⟩ := p
     exact .bind (varT_var k) (findB_of_mem h.nd hp) (reach_of_has (varT_var v) hv1 hv)
    simp only [if_pos hv1, if_pos hp1]
    omega
   ·simp only [if_neg hv1]
    omega
  ·simp at hp
   subst hp
   have hv1 : ¬ Reach L n (varT v) := fun hr1 => hno (reach_of_has (varT_var v) hr1 hv)
   have hn1 : Reach L n (varT n) := .var (varT_var n)
   have := hK v hv
   simp only [if_neg hv1, if_pos hn1]
   omega
end Go.Proofs.YtibcpdmeigdgpaaGreatDoor
namespace Go.Proofs.YtibcpdmeigdgpaaGreatDoor
open Go.RowKit
theorem belA {w w1 : World} (h : Below w.heap.size w w1) (o : Obj) : Below w.heap.size w (w1.alloc o) := h.alloc h.size o
theorem bel_drewN {B : Nat} {w w1 : World} (h : Below B w w1) (n : Nat) : Below B w (w1.drewN n) := ⟨h.os, h.tape, h.output, h.size, h.block⟩
def IRow (w : World) (v : Value) (ns : List Int) : Prop := w.ownsRow 0 3 1 v ns.length (ns.map (Value.int .i64))
theorem IRow.below {w w' : World} {v : Value} {ns : List Int} (h : IRow w v ns) (hb : Below w.heap.size w w') : IRow w' v ns := own_below h hb
theorem IRow.nil (w : World) : IRow w (.slice none 0 0) [] := World.ownsRow_nil _ _ _ _
theorem IRow.open_ {w : World} {v : Value} {ns : List Int} (h : IRow w v ns) : ∃ A c, v = .slice A ns.length c ∧ ns.length ≤ c ∧ (A = none → c = 0) ∧ ∀ i x, ns[i]? = some x → ∃ g, A = some ⟨g, 0, none⟩ ∧ g < w.heap.size ∧ w.cell? ⟨g, i, none⟩ = some (.int .i64 x) := by
 obtain ⟨A, c, e, h1, h2, _, h3⟩ := own_open h
 refine ⟨A, c, e, h1, h2, fun i x hx => ?_⟩
 have hi : i < ns.length := by
  rcases Nat.lt_or_ge i ns.length with h | h
  ·exact h
  ·rw [List.getElem?_eq_none h] at hx; cases hx
 obtain ⟨g, cur, rfl, _, hh, hc⟩ := h3 (by omega)
 exact ⟨g, rfl, heap_lt hh, (cell_of_row w g i _ _ _ hh).trans ((hc i (by omega)).trans (by simp [hx]))⟩
theorem TP.args {w : World} {S : Nat → Prop} {k n : Int} {s : ByteArray} {m : Nat} {a : Nat → T} {v0 v1 v2 : Value} {A : Option Addr} {m' c : Nat} (h : TP w S (.mk k n s m a) (.agg #[v0, v1, v2, .slice A m' c])) :
 v0 = .int .i64 k ∧ v1 = .int .i64 n ∧ v2 = .string s ∧ m' = m ∧ m ≤ c ∧ (A = none → c = 0) ∧ ∀ i, i < m → ∃ (b : Nat) (k0 k1 : Int) (k2 : ByteArray) (A0 : Option Addr) (m0 c0 : Nat), A = some ⟨b, 0, none⟩ ∧ S b ∧ b < w.heap.size ∧ w.cell? ⟨b, i * 4, none⟩ = some (.int .i64 k0) ∧ w.cell? ⟨b, i * 4 + 1, none⟩ = some (.int .i64 k1) ∧
  w.cell? ⟨b, i * 4 + 2, none⟩ = some (.string k2) ∧ w.cell? ⟨b, i * 4 + 3, none⟩ = some (.slice A0 m0 c0) ∧ TP w S (a i) (.agg #[.int .i64 k0, .int .i64 k1, .string k2, .slice A0 m0 c0]) := by
 obtain ⟨A', c', e, hmc, hA, hx⟩ := h
 injection e with e
 simp only [Array.mk.injEq, List.cons.injEq, and_true] at e
 obtain ⟨rfl, rfl, rfl, e⟩ := e
 injection e with e1 e2 e3
 subst e1; subst e2; subst e3
 refine ⟨rfl, rfl, rfl, rfl, hmc, hA, fun i hi => ?_⟩
 obtain ⟨b, cs, f, rfl, hS, hb, hc⟩ := hx (by omega)
 obtain ⟨v0, v1, v2, v3, c0, c1, c2, c3, ht⟩ := hc i hi
 obtain ⟨k0, k1, k2, A0, m0, c0', he⟩ := ht.agg
 injection he with he
 simp only [Array.mk.injEq, List.cons.injEq, and_true] at he
 obtain ⟨rfl, rfl, rfl, rfl⟩ := he
 have hr := fun (j : Nat) => cell_of_row w b j _ _ _ hb
 rw [Nat.mul_comm 4 i] at c0 c1 c2 c3
 exact ⟨b, k0, k1, k2, A0, m0, c0', rfl, hS, heap_lt hb, (hr _).trans c0, (hr _).trans c1, (hr _).trans c2, (hr _).trans c3, ht⟩
end Go.Proofs.YtibcpdmeigdgpaaGreatDoor
namespace Go.Proofs.YtibcpdmeigdgpaaGreatDoor
open Go.RowKit
end Go.Proofs.YtibcpdmeigdgpaaGreatDoor
namespace Go.Proofs.YtibcpdmeigdgpaaGreatDoor
open Go.RowKit
structure Ins where
 o : Int
 a : Int
 s : ByteArray
def Ins.cells (x : Ins) : List Value := [.int .i64 x.o, .int .i64 x.a, .string x.s]
def insCells (l : List Ins) : List Value := l.flatMap Ins.cells
theorem insCells_length (l : List Ins) : (insCells l).length = 3 * l.length := by
 induction l with
 | nil => rfl
 | cons x l ih => simp only [insCells, List.flatMap_cons, List.length_append, List.length_cons] at ih ⊢; rw [ih]; simp [Ins.cells]; omega
theorem insCells_at : ∀ (l : List Ins) (i : Nat) (h : i < l.length) (j : Nat), j < 3 → (insCells l)[3 * i + j]? = (l[i]'h).cells[j]?
 | x :: l, 0, _, j, hj => by
  simp only [insCells, List.flatMap_cons, Nat.mul_zero, Nat.zero_add, List.getElem_cons_zero]
  exact List.getElem?_append_left (by simpa [Ins.cells] using hj)
 | x :: l, i + 1, h, j, hj => by
  have ih := insCells_at l i (by simpa using h) j hj
  simp only [insCells, List.flatMap_cons, List.getElem_cons_succ] at ih ⊢
  rw [List.getElem?_append_right (by simp [Ins.cells]; omega), ← ih]
  congr 1
  simp [Ins.cells]; omega
theorem insCells_app (l r : List Ins) : insCells l ++ insCells r = insCells (l ++ r) := by simp [insCells]
def plN : List Int → Int → Nat → Option Nat
 | [], _, _ => none
 | x :: l, n, i => if x = n then some i else plN l n (i + 1)
theorem plN_none : ∀ {l : List Int} {n : Int} {i : Nat}, plN l n i = none ↔ n ∉ l
 | [], _, _ => by simp [plN]
 | x :: l, n, i => by
  unfold plN
  by_cases h : x = n
  ·rw [if_pos h]
   simp [h]
  ·rw [if_neg h, plN_none]
   simp only [List.mem_cons, not_or]
   exact ⟨fun h1 => ⟨fun e => h e.symm, h1⟩, fun h1 => h1.2⟩
theorem plN_snoc : ∀ (l : List Int) (n m : Int) (i : Nat), n ∉ l → plN (l ++ [n]) m i = if m = n then some (i + l.length) else plN l m i
 | [], n, m, i, _ => by
  simp only [List.nil_append, plN, List.length_nil, Nat.add_zero]
  by_cases h : n = m
  ·rw [if_pos h, if_pos h.symm]
  ·rw [if_neg h, if_neg fun e => h e.symm]
 | x :: l, n, m, i, h => by
  simp only [List.cons_append, plN, List.length_cons]
  simp only [List.mem_cons, not_or] at h
  by_cases hx : x = m
  ·rw [if_pos hx, if_neg fun e => h.1 (by rw [hx, e]), if_pos hx]
  ·rw [if_neg hx, plN_snoc l n m (i + 1) h.2, if_neg hx]
   by_cases hm : m = n
   ·rw [if_pos hm, if_pos hm]
    congr 1
    omega
   ·rw [if_neg hm, if_neg hm]
def foldC (m : Nat) (f : Nat → List Int → List Ins × List Int) (r : List Ins × List Int) : List Ins × List Int := match m with
 | 0 => r
 | m + 1 => ((foldC m f r).1 ++ (f m (foldC m f r).2).1, (f m (foldC m f r).2).2)
def codeT : T → List Int → List Ins × List Int
 | .nil, vs => ([], vs)
 | .mk k n s m a, vs =>
  if k = 1 then (match plN vs n 0 with
   | some i => ([⟨3, (i : Int), ⟨#[]⟩⟩], vs)
   | none => ([⟨2, (vs.length : Int), ⟨#[]⟩⟩], vs ++ [n]))
  else if k = 2 then ([⟨4, n, ⟨#[]⟩⟩], vs)
  else if k = 3 then ([⟨5, 0, s⟩], vs)
  else foldC m (fun i => codeT (a i)) ([⟨6, (m : Int), s⟩], vs)
def codeG : List T → List Ins × List Int → List Ins × List Int
 | [], r => r
 | g :: l, r => codeG l (r.1 ++ [⟨7, 0, ⟨#[]⟩⟩] ++ (codeT g r.2).1, (codeT g r.2).2)
theorem codeG_snoc : ∀ (l : List T) (g : T) (r : List Ins × List Int), codeG (l ++ [g]) r = ((codeG l r).1 ++ [⟨7, 0, ⟨#[]⟩⟩] ++ (codeT g (codeG l r).2).1, (codeT g (codeG l r).2).2)
 | [], _, _ => rfl
 | _ :: l, g, _ => codeG_snoc l g _
def encN (h : T) (gs : List T) : List Ins := [⟨1, ((codeG gs (codeT h [])).2.length : Int), ⟨#[]⟩⟩] ++ (codeG gs (codeT h [])).1 ++ [⟨8, 0, ⟨#[]⟩⟩]
def T.kinds : T → Prop
 | .nil => False
 | .mk k _ _ m a => (k = 1 ∨ k = 2 ∨ k = 3 ∨ k = 4) ∧ (k ≠ 4 → m = 0) ∧ ∀ i, i < m → (a i).kinds
theorem T.good.kinds : ∀ {t : T}, t.good → t.kinds
 | .nil, h => h.elim
 | .mk k n s m a, h => by
  refine ⟨?_, ?_, fun i hi => T.good.kinds (h.2 i hi)⟩
  ·rcases h.1 with h | h | h | h
   ·exact .inl h.1
   ·exact .inr (.inl h.1)
   ·exact .inr (.inr (.inl h.1))
   ·exact .inr (.inr (.inr h.1))
  ·intro hk
   rcases h.1 with h | h | h | h
   ·exact h.2.2.2.2
   ·exact h.2.2.2
   ·exact h.2.2.2
   ·exact absurd h.1 hk
end Go.Proofs.YtibcpdmeigdgpaaGreatDoor
