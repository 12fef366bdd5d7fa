/- What the walks over terms and bindings share: what a call leaves alone, a term's arguments, the map of what was gone into. -/
import Derived.Test.YtgoedlbdnmhppaaUni1
import Derived.Test.YtgoedlbdnmhppaaMap
import Derived.Deep.RegionLaw
import Derived.Deep.RegionHeld3
namespace Go.Proofs.Ytgoedlbdnmhppaa
open Go.RowKit

def zT : Value := .agg #[.int .i64 0, .int .i64 0, .string ⟨#[]⟩, .slice none 0 0]
theorem zeroT (w : World) : (zeroValue 40).run Try.prog w = .ok (.agg #[.int .i64 0, .int .i64 0, .string ⟨#[]⟩, .slice none 0 0]) w := by kernel_rfl
def msrW (L : Bs) (r : Int → Nat) (g : Nat) (w : World) : Nat := match w.cell? ⟨g, 0, none⟩, w.cell? ⟨g, 1, none⟩ with
  | some (.int _ k), some (.int _ n) => if k = 1 then cntR L r (r n + 1) else 0
  | _, _ => 0
theorem msrW_of {L : Bs} {r : Int → Nat} {g : Nat} {w : World} {k n : Int} {s x : Value} {ty : TypeId} {m : Nat × Nat} (h : w.heap[g]? = some (.cells #[.int .i64 k, .int .i64 n, s, x] ty m)) : msrW L r g w = if k = 1 then cntR L r (r n + 1) else 0 := by
  obtain ⟨h0, h1, _⟩ := box4t h
  simp only [msrW, h0, h1]
/-- A box, written anew, and a new block behind it. -/
theorem put_new {w wr : World} {B g : Nat} {u0 u1 u2 u3 : Value} {ty : TypeId} {m : Nat × Nat} (h : wr.heap[g]? = some (.cells #[u0, u1, u2, u3] ty m)) (hB : B ≤ g) (hb : Below B w wr) (x0 x1 x2 x3 : Value) (o : Obj) :
    ((((((wr.setCell ⟨g, 0, none⟩ x0).setCell ⟨g, 1, none⟩ x1).setCell ⟨g, 2, none⟩ x2).setCell ⟨g, 3, none⟩ x3).alloc o).heap[g]? = some (.cells #[x0, x1, x2, x3] ty m)) ∧
    (∀ k, k ≠ g → k < wr.heap.size → (((((wr.setCell ⟨g, 0, none⟩ x0).setCell ⟨g, 1, none⟩ x1).setCell ⟨g, 2, none⟩ x2).setCell ⟨g, 3, none⟩ x3).alloc o).heap[k]? = wr.heap[k]?) ∧
    Below B w (((((wr.setCell ⟨g, 0, none⟩ x0).setCell ⟨g, 1, none⟩ x1).setCell ⟨g, 2, none⟩ x2).setCell ⟨g, 3, none⟩ x3).alloc o) := by
  obtain ⟨p0, p1, p2, p3⟩ := box_put4 h x0 x1 x2 x3 rfl
  have hg := heap_lt h
  refine ⟨(Below.heap_alloc _ _ _ (by omega)).trans p0, fun k hk hk2 => (Below.heap_alloc _ _ _ (by omega)).trans (p2 k hk), (p3 _ _ hB hb).alloc (by have := hb.size; omega) _⟩
/-- Every block but one is as it was. -/
structure But (b : Nat) (w w' : World) : Prop where
  os : w'.os = w.os
  tape : w'.tape = w.tape
  output : w'.output = w.output
  size : w.heap.size ≤ w'.heap.size
  block : ∀ k, k < w.heap.size → k ≠ b → w'.heap[k]? = w.heap[k]?
theorem But.refl (b : Nat) (w : World) : But b w w := ⟨rfl, rfl, rfl, Nat.le_refl _, fun _ _ _ => rfl⟩
theorem But.trans {b : Nat} {w w1 w2 : World} (h : But b w w1) (k : But b w1 w2) : But b w w2 :=
  ⟨k.os.trans h.os, k.tape.trans h.tape, k.output.trans h.output, Nat.le_trans h.size k.size, fun i hi hb => (k.block i (Nat.lt_of_lt_of_le hi h.size) hb).trans (h.block i hi hb)⟩
theorem But.of {b : Nat} {w w' : World} (h : Below w.heap.size w w') : But b w w' := ⟨h.os, h.tape, h.output, h.size, fun k hk _ => h.block k hk⟩
theorem But.turned {b : Nat} {w w' : World} (h : w.mapTurned w' b) : But b w w' :=
  ⟨h.grown.os, h.grown.tape, h.grown.output, h.grown.size, fun k _ hk => turned_block h k hk⟩
/-- .. below it everything is as it was. -/
theorem But.below {b : Nat} {w w' : World} (h : But b w w') {B : Nat} (hB : B ≤ b) (hs : B ≤ w.heap.size) : Below B w w' := ⟨h.os, h.tape, h.output, h.size, fun k hk => h.block k (by omega) (by omega)⟩
theorem But.low {b B : Nat} {w w1 w2 : World} (h : But b w w1) (k : Below B w1 w2) (hB : w.heap.size ≤ B) : But b w w2 :=
  ⟨k.os.trans h.os, k.tape.trans h.tape, k.output.trans h.output, Nat.le_trans h.size k.size, fun i hi hb => (k.block i (by omega)).trans (h.block i hi hb)⟩
def IsMapAt (w : World) (b : Nat) : Prop := ∃ es clock, w.heap[b]? = some (.map es clock)
theorem IM.is {w : World} {b n : Nat} {M : Int → Option Value} (h : IM w b n M) : IsMapAt w b := by
  obtain ⟨D, ⟨es, clock, hh, _⟩, _⟩ := h
  exact ⟨es, clock, hh⟩
theorem But.cells {b : Nat} {w w' : World} (h : But b w w') (hb : IsMapAt w b) {g : Nat} {cs : Array Value} {ty : TypeId} {m : Nat × Nat} (hg : w.heap[g]? = some (.cells cs ty m)) : w'.heap[g]? = some (.cells cs ty m) := by
  refine (h.block g (heap_lt hg) ?_).trans hg
  rintro rfl
  obtain ⟨es, clock, hh⟩ := hb
  rw [hh] at hg
  cases hg
theorem TP.but {b : Nat} {w w' : World} {S : Nat → Prop} {t : T} {v : Value} (ht : TP w S t v) (h : But b w w') (hb : IsMapAt w b) : TP w' S t v := ht.keep fun _ _ _ hS hh => ⟨h.cells hb hh, hS⟩
/-- A list of different numbers below n is no longer than n. -/
theorem nodup_few : ∀ (n : Nat) (l : List Int), l.Nodup → (∀ i ∈ l, 0 ≤ i ∧ i < (n : Int)) → l.length ≤ n := by
  intro n
  induction n with
  | zero =>
    intro l _ h
    cases l with
    | nil => simp
    | cons a l => have := h a List.mem_cons_self; omega
  | succ n ih =>
    intro l hl h
    have h1 := ih (l.erase (n : Int)) (hl.erase _) fun i hi => by
      have h2 := h i (List.mem_of_mem_erase hi)
      have h3 : i ≠ (n : Int) := fun e => by rw [e] at hi; exact (hl.not_mem_erase hi)
      omega
    have := List.length_erase (a := (n : Int)) (l := l)
    split at this <;> omega
def seenM (S : List Int) : Int → Option Value := fun i => if i ∈ S then some (.bool true) else none
theorem seenM_put (S : List Int) (i : Int) : putI (seenM S) i (.bool true) = seenM (i :: S) := by
  funext j
  by_cases h : j = i <;> simp [putI, seenM, h]
theorem zeroB (w : World) : (zeroValue 4).run Try.prog w = .ok (.bool false) w := by kernel_rfl
/-- A term's arguments, by its blocks. -/
theorem TP.args {w : World} {S : Nat → Prop} {k n : Int} {s : ByteArray} {m : Nat} {a : Nat → T} {v0 v1 v2 : Value} {A : Option Addr} {m' c : Nat} (h : TP w S (.mk k n s m a) (.agg #[v0, v1, v2, .slice A m' c])) :
    v0 = .int .i64 k ∧ v1 = .int .i64 n ∧ v2 = .string s ∧ m' = m ∧ m ≤ c ∧ (A = none → c = 0) ∧ ∀ i, i < m → ∃ (b : Nat) (k0 k1 : Int) (k2 : ByteArray) (A0 : Option Addr) (m0 c0 : Nat), A = some ⟨b, 0, none⟩ ∧ S b ∧ b < w.heap.size ∧ w.cell? ⟨b, i * 4, none⟩ = some (.int .i64 k0) ∧ w.cell? ⟨b, i * 4 + 1, none⟩ = some (.int .i64 k1) ∧
      w.cell? ⟨b, i * 4 + 2, none⟩ = some (.string k2) ∧ w.cell? ⟨b, i * 4 + 3, none⟩ = some (.slice A0 m0 c0) ∧ TP w S (a i) (.agg #[.int .i64 k0, .int .i64 k1, .string k2, .slice A0 m0 c0]) := by
  obtain ⟨A', c', e, hmc, hA, hx⟩ := h
  injection e with e
  simp only [Array.mk.injEq, List.cons.injEq, and_true] at e
  obtain ⟨rfl, rfl, rfl, e⟩ := e
  injection e with e1 e2 e3
  subst e1; subst e2; subst e3
  refine ⟨rfl, rfl, rfl, rfl, hmc, hA, fun i hi => ?_⟩
  obtain ⟨b, cs, f, rfl, hS, hb, hc⟩ := hx (by omega)
  obtain ⟨v0, v1, v2, v3, c0, c1, c2, c3, ht⟩ := hc i hi
  obtain ⟨k0, k1, k2, A0, m0, c0', he⟩ := ht.agg
  injection he with he
  simp only [Array.mk.injEq, List.cons.injEq, and_true] at he
  obtain ⟨rfl, rfl, rfl, rfl⟩ := he
  have hr := fun (j : Nat) => cell_of_row w b j _ _ _ hb
  rw [Nat.mul_comm 4 i] at c0 c1 c2 c3
  exact ⟨b, k0, k1, k2, A0, m0, c0', rfl, hS, heap_lt hb, (hr _).trans c0, (hr _).trans c1, (hr _).trans c2, (hr _).trans c3, ht⟩
theorem hasV_inr {t : T} (h : t.ok) : ∀ v, t.hasV v → 0 ≤ v ∧ v < 1000 := by
  induction t with
  | nil => exact fun _ h => h.elim
  | mk k n s m a ih =>
    rintro v (⟨h1, rfl⟩ | ⟨_, i, hi, h2⟩)
    · have := h.var h1; exact ⟨this.1, this.2.1⟩
    · exact ih i (h.arg hi) v h2
end Go.Proofs.Ytgoedlbdnmhppaa
