/- Terms that a row of instructions may tell. Unification on plain terms: bindings, what a term stands for, whether a variable is within it; no program in sight. Bits on rows of integers and on terms' arguments. The variables of a term, each once, by where they come first: plain. Depths of terms: both functions. The walks through coneyref07.Depth and term.Depth. -/
import Derived.Test.YtlgeepjlnjlgdaaDoorEB
import Derived.Test.YtlgeepjlnjlgdaaDoorED
import Derived.Deep.QuietTactic
import Derived.BigQuiet
namespace Go.Proofs.YtlgeepjlnjlgdaaDoor
open Go.RowKit

/-- How many terms a term has. -/
def sumTo : Nat → (Nat → Nat) → Nat
  | 0, _ => 0
  | n + 1, f => sumTo n f + f n
def T.nodes : T → Nat
  | .nil => 0
  | .mk _ _ _ m a => 1 + sumTo m fun i => (a i).nodes
/-- A term as a text tells it. -/
def T.good : T → Prop
  | .nil => False
  | .mk k n s m a => ((k = 1 ∧ 0 ≤ n ∧ n < 9223372036854775808 ∧ s = ⟨#[]⟩ ∧ m = 0) ∨ (k = 2 ∧ I64 n ∧ s = ⟨#[]⟩ ∧ m = 0) ∨ (k = 3 ∧ n = 0 ∧ nameOk s ∧ m = 0) ∨ (k = 4 ∧ n = 0 ∧ nameOk s ∧ 0 < m)) ∧ ∀ i, i < m → (a i).good
theorem leaf_nodes (k n : Int) (s : ByteArray) (a : Nat → T) : (T.mk k n s 0 a).nodes = 1 := rfl
end Go.Proofs.YtlgeepjlnjlgdaaDoor
namespace Go.Proofs.YtlgeepjlnjlgdaaDoor
open Go.RowKit

abbrev Bs := List (Int × T)
def findB : Bs → Int → Option T
  | [], _ => none
  | (k, x) :: L, n => if k = n then some x else findB L n
def T.var? : T → Option Int
  | .nil => none
  | .mk k n _ _ _ => if k = 1 then some n else none
/-- Has a term this variable in it? -/
def T.hasV (v : Int) : T → Prop
  | .nil => False
  | .mk k n _ m a => (k = 1 ∧ n = v) ∨ (k = 4 ∧ ∃ i, i < m ∧ (a i).hasV v)
/-- A term as a text tells it, of at most 4000 parts. -/
def T.ok (t : T) : Prop := t.good ∧ t.nodes ≤ 4000
theorem sumTo_ge0 (n : Nat) (f : Nat → Nat) (i : Nat) (hi : i < n) : f i ≤ sumTo n f := by
  induction n with
  | zero => omega
  | succ n ih =>
    simp only [sumTo]
    rcases Nat.lt_or_ge i n with h | h
    · have := ih h; omega
    · obtain rfl : i = n := by omega
      omega
theorem T.ok.arg {k n : Int} {s : ByteArray} {m : Nat} {a : Nat → T} (h : (T.mk k n s m a).ok) {i : Nat} (hi : i < m) : (a i).ok :=
  ⟨h.1.2 i hi, by have := sumTo_ge0 m (fun i => (a i).nodes) i hi; have h2 := h.2; simp only [T.nodes] at h2; omega⟩
theorem T.good.pos : ∀ {t : T}, t.good → 0 < t.nodes
  | .nil, h => h.elim
  | .mk _ _ _ _ _, _ => by simp only [T.nodes]; omega
theorem sumTo_ones0 (n : Nat) (f : Nat → Nat) (h : ∀ i, i < n → 0 < f i) : n ≤ sumTo n f := by
  induction n with
  | zero => omega
  | succ n ih =>
    have := ih fun i hi => h i (by omega)
    have := h n (by omega)
    simp only [sumTo]
    omega
theorem T.ok.few {k n : Int} {s : ByteArray} {m : Nat} {a : Nat → T} (h : (T.mk k n s m a).ok) : m < 4000 := by
  have := sumTo_ones0 m (fun i => (a i).nodes) fun i hi => (h.1.2 i hi).pos
  have h2 := h.2
  simp only [T.nodes] at h2
  omega
theorem T.ok.var {k n : Int} {s : ByteArray} {m : Nat} {a : Nat → T} (h : (T.mk k n s m a).ok) (hk : k = 1) : 0 ≤ n ∧ n < 9223372036854775808 ∧ s = ⟨#[]⟩ ∧ m = 0 := by
  rcases h.1.1 with h | h | h | h
  · exact ⟨h.2.1, h.2.2.1, h.2.2.2.1, h.2.2.2.2⟩
  all_goals omega
theorem T.ok.plain {k n : Int} {s : ByteArray} {m : Nat} {a : Nat → T} (h : (T.mk k n s m a).ok) (hk : k ≠ 4) : m = 0 := by
  rcases h.1.1 with h | h | h | h
  · exact h.2.2.2.2
  · exact h.2.2.2
  · exact h.2.2.2
  · omega

end Go.Proofs.YtlgeepjlnjlgdaaDoor
namespace Go.Proofs.YtlgeepjlnjlgdaaDoor
open Go.RowKit

/-- A list of different numbers below n is no longer than n. -/
theorem nodup_few : ∀ (n : Nat) (l : List Int), l.Nodup → (∀ i ∈ l, 0 ≤ i ∧ i < (n : Int)) → l.length ≤ n := by
  intro n
  induction n with
  | zero =>
    intro l _ h
    cases l with
    | nil => simp
    | cons a l => have := h a List.mem_cons_self; omega
  | succ n ih =>
    intro l hl h
    have h1 := ih (l.erase (n : Int)) (hl.erase _) fun i hi => by
      have h2 := h i (List.mem_of_mem_erase hi)
      have h3 : i ≠ (n : Int) := fun e => by rw [e] at hi; exact (hl.not_mem_erase hi)
      omega
    have := List.length_erase (a := (n : Int)) (l := l)
    split at this <;> omega
theorem belA {w w1 : World} (h : Below w.heap.size w w1) (o : Obj) : Below w.heap.size w (w1.alloc o) := h.alloc h.size o
theorem bel_drewN {B : Nat} {w w1 : World} (h : Below B w w1) (n : Nat) : Below B w (w1.drewN n) := ⟨h.os, h.tape, h.output, h.size, h.block⟩
theorem Tryd.info_int8 : (Tryd.prog.info? 3).map (fun i => (i.zero, i.size, i.bytes)) = some (some (.int .i64 0), 1, 8) := by kernel_rfl
theorem elInt8 : El Tryd.prog 55 3 (.int .i64 0) 1 8 := by
  obtain ⟨i0, hi, hz0, hz1, hz2⟩ := info_parts Tryd.info_int8
  exact ⟨Tryd.underlying55, ⟨i0, hi, hz0, hz1, hz2⟩, rfl, by omega⟩
/-- A row of integers. -/
def IRow (w : World) (v : Value) (ns : List Int) : Prop := w.ownsRow 0 3 1 v ns.length (ns.map (Value.int .i64))
theorem IRow.below {w w' : World} {v : Value} {ns : List Int} (h : IRow w v ns) (hb : Below w.heap.size w w') : IRow w' v ns := own_below h hb
theorem IRow.nil (w : World) : IRow w (.slice none 0 0) [] := World.ownsRow_nil _ _ _ _
theorem IRow.open_ {w : World} {v : Value} {ns : List Int} (h : IRow w v ns) : ∃ A c, v = .slice A ns.length c ∧ ns.length ≤ c ∧ (A = none → c = 0) ∧ ∀ i x, ns[i]? = some x → ∃ g, A = some ⟨g, 0, none⟩ ∧ g < w.heap.size ∧ w.cell? ⟨g, i, none⟩ = some (.int .i64 x) := by
  obtain ⟨A, c, e, h1, h2, _, h3⟩ := own_open h
  refine ⟨A, c, e, h1, h2, fun i x hx => ?_⟩
  have hi : i < ns.length := by
    rcases Nat.lt_or_ge i ns.length with h | h
    · exact h
    · rw [List.getElem?_eq_none h] at hx; cases hx
  obtain ⟨g, cur, rfl, _, hh, hc⟩ := h3 (by omega)
  exact ⟨g, rfl, heap_lt hh, (cell_of_row w g i _ _ _ hh).trans ((hc i (by omega)).trans (by simp [hx]))⟩
/-- A term's arguments, by its blocks. -/
theorem TP.args {w : World} {S : Nat → Prop} {k n : Int} {s : ByteArray} {m : Nat} {a : Nat → T} {v0 v1 v2 : Value} {A : Option Addr} {m' c : Nat} (h : TP w S (.mk k n s m a) (.agg #[v0, v1, v2, .slice A m' c])) :
    v0 = .int .i64 k ∧ v1 = .int .i64 n ∧ v2 = .string s ∧ m' = m ∧ m ≤ c ∧ (A = none → c = 0) ∧ ∀ i, i < m → ∃ (b : Nat) (k0 k1 : Int) (k2 : ByteArray) (A0 : Option Addr) (m0 c0 : Nat), A = some ⟨b, 0, none⟩ ∧ S b ∧ b < w.heap.size ∧ w.cell? ⟨b, i * 4, none⟩ = some (.int .i64 k0) ∧ w.cell? ⟨b, i * 4 + 1, none⟩ = some (.int .i64 k1) ∧
      w.cell? ⟨b, i * 4 + 2, none⟩ = some (.string k2) ∧ w.cell? ⟨b, i * 4 + 3, none⟩ = some (.slice A0 m0 c0) ∧ TP w S (a i) (.agg #[.int .i64 k0, .int .i64 k1, .string k2, .slice A0 m0 c0]) := by
  obtain ⟨A', c', e, hmc, hA, hx⟩ := h
  injection e with e
  simp only [Array.mk.injEq, List.cons.injEq, and_true] at e
  obtain ⟨rfl, rfl, rfl, e⟩ := e
  injection e with e1 e2 e3
  subst e1; subst e2; subst e3
  refine ⟨rfl, rfl, rfl, rfl, hmc, hA, fun i hi => ?_⟩
  obtain ⟨b, cs, f, rfl, hS, hb, hc⟩ := hx (by omega)
  obtain ⟨v0, v1, v2, v3, c0, c1, c2, c3, ht⟩ := hc i hi
  obtain ⟨k0, k1, k2, A0, m0, c0', he⟩ := ht.agg
  injection he with he
  simp only [Array.mk.injEq, List.cons.injEq, and_true] at he
  obtain ⟨rfl, rfl, rfl, rfl⟩ := he
  have hr := fun (j : Nat) => cell_of_row w b j _ _ _ hb
  rw [Nat.mul_comm 4 i] at c0 c1 c2 c3
  exact ⟨b, k0, k1, k2, A0, m0, c0', rfl, hS, heap_lt hb, (hr _).trans c0, (hr _).trans c1, (hr _).trans c2, (hr _).trans c3, ht⟩
end Go.Proofs.YtlgeepjlnjlgdaaDoor
namespace Go.Proofs.YtlgeepjlnjlgdaaDoor
open Go.RowKit

def add1 (acc : List Int) (x : Int) : List Int := if x ∈ acc then acc else acc ++ [x]
def addAll (acc l : List Int) : List Int := l.foldl add1 acc
def foldN (n : Nat) (f : Nat → List Int) (acc : List Int) : List Int := match n with
  | 0 => acc
  | n + 1 => addAll (foldN n f acc) (f n)
def varsT : T → List Int
  | .nil => []
  | .mk k n _ m a => if k = 1 then [n] else if k = 4 then foldN m (fun i => varsT (a i)) [] else []
theorem varsT_cmp (n : Int) (s : ByteArray) (m : Nat) (a : Nat → T) : varsT (.mk 4 n s m a) = foldN m (fun i => varsT (a i)) [] := by
  rw [varsT]; rfl
theorem mem_add1 {acc : List Int} {x y : Int} : y ∈ add1 acc x ↔ y ∈ acc ∨ y = x := by
  unfold add1
  split
  · exact ⟨.inl, fun h => h.elim id fun e => e ▸ by assumption⟩
  · simp
theorem mem_addAll : ∀ {l acc : List Int} {y : Int}, y ∈ addAll acc l ↔ y ∈ acc ∨ y ∈ l
  | [], acc, y => by simp [addAll]
  | x :: l, acc, y => by
    show y ∈ addAll (add1 acc x) l ↔ _
    rw [mem_addAll, mem_add1]
    simp [or_assoc]
theorem add1_nodup {acc : List Int} {x : Int} (h : acc.Nodup) : (add1 acc x).Nodup := by
  unfold add1
  split
  · exact h
  · rename_i hx
    rw [List.nodup_append]
    exact ⟨h, by simp, fun a ha b hb => by simp at hb; subst hb; exact fun e => hx (e ▸ ha)⟩
theorem addAll_nodup : ∀ {l acc : List Int}, acc.Nodup → (addAll acc l).Nodup
  | [], _, h => h
  | _ :: l, _, h => addAll_nodup (l := l) (add1_nodup h)
theorem addAll_append (acc l k : List Int) : addAll acc (l ++ k) = addAll (addAll acc l) k := by simp [addAll]
theorem addAll_mem {acc : List Int} {x : Int} (h : x ∈ acc) : add1 acc x = acc := if_pos h
/-- Adding what was added to something. -/
theorem addAll_assoc (acc b l : List Int) : addAll acc (addAll b l) = addAll (addAll acc b) l := by
  induction l generalizing b with
  | nil => rfl
  | cons x l ih =>
    show addAll acc (addAll (add1 b x) l) = addAll (add1 (addAll acc b) x) l
    rw [ih]
    congr 1
    unfold add1
    by_cases hx : x ∈ b
    · rw [if_pos hx, if_pos (mem_addAll.mpr (.inr hx))]
    · rw [if_neg hx, addAll_append]; rfl
theorem addAll_fresh : ∀ {l acc : List Int}, l.Nodup → (∀ x ∈ l, x ∉ acc) → addAll acc l = acc ++ l
  | [], acc, _, _ => by simp [addAll]
  | x :: l, acc, h, hx => by
    show addAll (add1 acc x) l = _
    have h1 : add1 acc x = acc ++ [x] := if_neg (hx x List.mem_cons_self)
    rw [h1, addAll_fresh (List.nodup_cons.mp h).2 fun y hy => by
      simp only [List.mem_append, List.mem_singleton]
      rintro (h2 | rfl)
      · exact hx y (List.mem_cons_of_mem _ hy) h2
      · exact (List.nodup_cons.mp h).1 hy]
    simp
theorem addAll_nil {l : List Int} (h : l.Nodup) : addAll [] l = l := by simpa using addAll_fresh (acc := []) h fun _ _ h => by cases h
theorem foldN_nodup {n : Nat} {f : Nat → List Int} : ∀ {acc : List Int}, acc.Nodup → (foldN n f acc).Nodup := by
  induction n with
  | zero => exact fun h => h
  | succ n ih => exact fun h => addAll_nodup (ih h)
theorem mem_foldN {n : Nat} {f : Nat → List Int} {acc : List Int} {y : Int} : y ∈ foldN n f acc ↔ y ∈ acc ∨ ∃ i, i < n ∧ y ∈ f i := by
  induction n with
  | zero => simp [foldN]
  | succ n ih =>
    simp only [foldN, mem_addAll, ih]
    constructor
    · rintro ((h | ⟨i, hi, h⟩) | h)
      · exact .inl h
      · exact .inr ⟨i, by omega, h⟩
      · exact .inr ⟨n, by omega, h⟩
    · rintro (h | ⟨i, hi, h⟩)
      · exact .inl (.inl h)
      · rcases Nat.lt_or_ge i n with h1 | h1
        · exact .inl (.inr ⟨i, h1, h⟩)
        · obtain rfl : i = n := by omega
          exact .inr h
theorem foldN_acc {n : Nat} {f : Nat → List Int} (acc : List Int) : addAll acc (foldN n f []) = foldN n f acc := by
  induction n with
  | zero => rfl
  | succ n ih => simp only [foldN]; rw [addAll_assoc, ih]
theorem varsT_nodup : ∀ {t : T}, (varsT t).Nodup
  | .nil => List.Pairwise.nil
  | .mk k n _ m a => by
    unfold varsT
    split
    · simp
    · split
      · exact foldN_nodup List.Pairwise.nil
      · exact List.Pairwise.nil
theorem varsT_has : ∀ {t : T} {v : Int}, v ∈ varsT t → t.hasV v := by
  intro t
  induction t with
  | nil => exact fun h => by cases h
  | mk k n s m a ih =>
    intro v h
    unfold varsT at h
    split at h
    · rename_i hk
      simp at h
      exact .inl ⟨hk, h.symm⟩
    · split at h
      · rename_i hk
        rcases mem_foldN.mp h with h | ⟨i, hi, h⟩
        · cases h
        · exact .inr ⟨hk, i, hi, ih i h⟩
      · cases h
end Go.Proofs.YtlgeepjlnjlgdaaDoor
namespace Go.Proofs.YtlgeepjlnjlgdaaDoor
open Go.RowKit

def maxTo : Nat → (Nat → Nat) → Nat
  | 0, _ => 0
  | n + 1, f => max (maxTo n f) (f n)
/-- How many terms a term has within one another. -/
def T.depth : T → Nat
  | .nil => 1
  | .mk k _ _ m a => (if k = 4 then maxTo m fun i => (a i).depth else 0) + 1
theorem maxTo_le {f : Nat → Nat} {i : Nat} : ∀ {n : Nat}, i < n → f i ≤ maxTo n f := by
  intro n
  induction n with
  | zero => intro h; omega
  | succ n ih =>
    intro h
    unfold maxTo
    rcases Nat.lt_or_ge i n with h1 | h1
    · exact Nat.le_trans (ih h1) (Nat.le_max_left _ _)
    · obtain rfl : i = n := by omega
      exact Nat.le_max_right _ _
theorem maxTo_lt {f : Nat → Nat} {c : Nat} : ∀ {n : Nat}, (∀ i, i < n → f i ≤ c) → maxTo n f ≤ c := by
  intro n
  induction n with
  | zero => intro _; exact Nat.zero_le _
  | succ n ih =>
    intro h
    exact Nat.max_le.2 ⟨ih fun i hi => h i (by omega), h n (by omega)⟩
theorem maxTo_mono {n q : Nat} (f : Nat → Nat) (h : q ≤ n) : maxTo q f ≤ maxTo n f := maxTo_lt fun i hi => maxTo_le (by omega)
theorem sumTo_one {n : Nat} {f : Nat → Nat} {i : Nat} (h : i < n) : f i ≤ sumTo n f := by
  induction n with
  | zero => omega
  | succ n ih =>
    simp only [sumTo]
    rcases Nat.lt_or_ge i n with h1 | h1
    · have := ih h1; omega
    · obtain rfl : i = n := by omega
      omega
theorem depth_nodes : ∀ {t : T}, t.depth ≤ t.nodes + 1
  | .nil => by simp [T.depth, T.nodes]
  | .mk k n s m a => by
    simp only [T.depth, T.nodes]
    split
    · have : maxTo m (fun i => (a i).depth) ≤ 1 + sumTo m fun i => (a i).nodes := maxTo_lt fun i hi => by
        have h1 := depth_nodes (t := a i)
        have h2 := sumTo_one (f := fun i => (a i).nodes) hi
        omega
      omega
    · omega
end Go.Proofs.YtlgeepjlnjlgdaaDoor
namespace Go.Proofs.YtlgeepjlnjlgdaaDoor
open Go.RowKit

theorem TIn.posN {w : World} {B : Nat} {t : T} {v : Value} (h : TIn w B t v) : 0 < t.nodes := by
  cases t with
  | nil => exact h.elim
  | mk k n s m a => simp only [T.nodes]; omega
theorem sum_ones : ∀ (m : Nat) (f : Nat → Nat), (∀ i, i < m → 0 < f i) → m ≤ sumTo m f
  | 0, _, _ => Nat.zero_le _
  | m + 1, f, h => by
    simp only [sumTo]
    have := sum_ones m f fun i hi => h i (by omega)
    have := h m (by omega)
    omega
theorem TAt.fewN {w : World} {B : Nat} {k n : Int} {s : ByteArray} {m : Nat} {a : Nat → T} {A : Option Addr} {c : Nat} (h : TAt w B k n s m a A c) : m ≤ sumTo m fun i => (a i).nodes := by
  rcases Nat.eq_zero_or_pos m with h0 | h0
  · omega
  · obtain ⟨b, off, _, _, hc⟩ := h.cells h0
    exact sum_ones _ _ fun i hi => by
      obtain ⟨_, _, _, _, _, _, _, _, ht⟩ := hc i hi
      exact ht.posN
theorem depth_cmp {k n : Int} {s : ByteArray} {m : Nat} {a : Nat → T} (h : (k == 4) = true) : (T.mk k n s m a).depth = maxTo m (fun i => (a i).depth) + 1 := by
  simp only [T.depth]; rw [if_pos (by simpa using h)]
theorem depth_leaf {k n : Int} {s : ByteArray} {m : Nat} {a : Nat → T} (h : (k == 4) = false) : (T.mk k n s m a).depth = 1 := by
  simp only [T.depth]; rw [if_neg (by simpa using h)]
theorem maxTo_succ {f : Nat → Nat} {i z : Nat} (h : z = maxTo i f) : max z (f i) = maxTo (i + 1) f := by rw [h]; rfl
set_option maxRecDepth 100000 in
set_option maxHeartbeats 4000000 in
theorem rdepth_any : ∀ t : T, t.nodes ≤ 100000 → ∀ (v : Value) (w : World), TIn w w.heap.size t v →
    Calls Tryd.prog 52 #[v] w fun e w' => e = .returned (.int .i64 (t.depth : Int)) ∧ Below w.heap.size w w' := by
  intro t
  induction t with
  | nil => intro _ v w hv; exact hv.elim
  | mk k n s m a ih =>
    intro hn v w hv
    obtain ⟨A, c, rfl, hT⟩ := hv.open_
    have HT := Lib.hid hT
    have hnod : 1 + (sumTo m fun i => (a i).nodes) ≤ 100000 := hn
    have hm2 : m ≤ 100000 := by have := hT.fewN; omega
    have IH := Lib.hid ih
    have HDM := Lib.hid (show ∀ i, i ≤ m → maxTo i (fun i => (a i).depth) ≤ 100002 from fun i hi => maxTo_lt fun q hq => by
      have h1 := depth_nodes (t := a q)
      have h2 := sumTo_one (f := fun i => (a i).nodes) (show q < m by omega)
      omega)
    clear hv hT ih hn
    go_enter Tryd.func52, Tryd.ntmps52
    go_wp2_with fail
    go_loopw [3, 4] (fun nv iv wr => ∃ z i : Nat, nv = .int .i64 (z : Int) ∧ iv = .int .i64 (i : Int) ∧ i ≤ m ∧ Hid (z = if k = 4 then maxTo i (fun i => (a i).depth) else 0) ∧ Below w.heap.size w wr ∧
      wr.heap[w.heap.size]? = some (.cells #[.int .i64 k, .int .i64 n, .string s, .slice A m c] 24 (0, 0))) (fun _ iv _ => m - (intOf iv).toNat)
    case atStart => exact ⟨0, 0, rfl, rfl, by omega, Lib.hid (by split <;> rfl), (Below.refl _ _).alloc (Nat.le_refl _) _, heap_alloc_new _ _⟩
    case round =>
      obtain ⟨z, i, rfl, rfl, hi, hz, hb, hbox⟩ := hrel
      have HB := Lib.hid hb
      have HX := Lib.hid hbox
      obtain ⟨y0, y1, y2, y3⟩ := box4 hbox
      clear hb hbox
      cases hk' : (k == 4) with
      | true =>
        have HZ := Lib.hid (show z = maxTo i (fun i => (a i).depth) by rw [hz.out, if_pos (by simpa using hk')])
        have hz2 : z ≤ 100002 := by rw [HZ.out]; exact HDM.out i hi
        by_cases him : i < m
        · have him' : (i : Int) < (m : Int) := by omega
          obtain ⟨b, off, rfl, hbw, hcell⟩ := HT.out.cells (by omega)
          obtain ⟨v0, v1, v2, v3, c0, c1, c2, c3, ht⟩ := hcell i him
          have hbl : b < w.heap.size := hbw
          have d0 := (HB.out.cell (p := ⟨b, off + 4 * i, none⟩) hbl).trans c0
          have d1 := (HB.out.cell (p := ⟨b, off + 4 * i + 1, none⟩) hbl).trans c1
          have d2 := (HB.out.cell (p := ⟨b, off + 4 * i + 2, none⟩) hbl).trans c2
          have d3 := (HB.out.cell (p := ⟨b, off + 4 * i + 3, none⟩) hbl).trans c3
          rw [Nat.mul_comm 4 i] at d0 d1 d2 d3
          have HC := Lib.hid ((ht.below HB.out).more HB.out.size)
          have hci : (a i).nodes ≤ 100000 := by have := sumTo_one (f := fun i => (a i).nodes) him; omega
          obtain ⟨zc, hzc⟩ : ∃ zc, zc = (a i).depth := ⟨_, rfl⟩
          have hzc2 : zc ≤ 100002 := by rw [hzc]; have := depth_nodes (t := a i); omega
          have CI := Lib.hid (IH.out i hci _ _ HC.out)
          rw [← hzc] at CI
          have HZC := Lib.hid hzc
          clear hcell c0 c1 c2 c3 ht hzc
          rcases Int.lt_or_le (z : Int) (zc : Int) with hmx | hmx
          all_goals
            have HM := Lib.hid hmx
            go_wp2_with fail
            refine CI.out.mono ?_
            rintro e w5 ⟨rfl, h5⟩
            have B5 := Lib.hid (HB.out.trans (h5.mono HB.out.size))
            have X5 := Lib.hid ((h5.block _ (heap_lt HX.out)).trans HX.out)
            clear h5
            go_wp2_with fail
            go_roundw
            case rel => exact ⟨max z zc, i + 1, by have := HM.out; go_num, by go_num, him, Lib.hid (by rw [if_pos (by simpa using hk'), HZC.out]; exact maxTo_succ HZ.out), B5.out, X5.out⟩
            case measure => simp [intOf]; omega
        · obtain rfl : i = m := by omega
          have HE := Lib.hid (show (z : Int) + 1 = ((T.mk k n s i a).depth : Int) by rw [depth_cmp hk', ← HZ.out]; omega)
          go_wp2_with fail
          go_ret
          rw [← HE.out]
          exact ⟨rfl, HB.out⟩
      | false =>
        have HE := Lib.hid (show (z : Int) + 1 = ((T.mk k n s m a).depth : Int) by rw [depth_leaf hk', hz.out, if_neg (by simpa using hk')]; rfl)
        have hz2 : z ≤ 100002 := by rw [hz.out, if_neg (by simpa using hk')]; omega
        go_wp2_with fail
        go_ret
        rw [← HE.out]
        exact ⟨rfl, HB.out⟩
end Go.Proofs.YtlgeepjlnjlgdaaDoor
