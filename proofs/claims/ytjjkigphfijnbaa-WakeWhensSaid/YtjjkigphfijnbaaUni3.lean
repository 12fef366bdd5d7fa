/- unify.occurs: the map of what was gone into; what its closure leaves alone. -/
import Derived.Test.YtjjkigphfijnbaaUni2
namespace Go.Proofs.Ytjjkigphfijnbaa
open Go.RowKit

/-- Every block but one is as it was. -/
structure But (b : Nat) (w w' : World) : Prop where
  os : w'.os = w.os
  tape : w'.tape = w.tape
  output : w'.output = w.output
  size : w.heap.size ≤ w'.heap.size
  block : ∀ k, k < w.heap.size → k ≠ b → w'.heap[k]? = w.heap[k]?
theorem But.refl (b : Nat) (w : World) : But b w w := ⟨rfl, rfl, rfl, Nat.le_refl _, fun _ _ _ => rfl⟩
theorem But.trans {b : Nat} {w w1 w2 : World} (h : But b w w1) (k : But b w1 w2) : But b w w2 :=
  ⟨k.os.trans h.os, k.tape.trans h.tape, k.output.trans h.output, Nat.le_trans h.size k.size, fun i hi hb => (k.block i (Nat.lt_of_lt_of_le hi h.size) hb).trans (h.block i hi hb)⟩
theorem But.of {b : Nat} {w w' : World} (h : Below w.heap.size w w') : But b w w' := ⟨h.os, h.tape, h.output, h.size, fun k hk _ => h.block k hk⟩
theorem But.turned {b : Nat} {w w' : World} (h : w.mapTurned w' b) : But b w w' :=
  ⟨h.grown.os, h.grown.tape, h.grown.output, h.grown.size, fun k _ hk => turned_block h k hk⟩
/-- .. below it everything is as it was. -/
theorem But.below {b : Nat} {w w' : World} (h : But b w w') {B : Nat} (hB : B ≤ b) (hs : B ≤ w.heap.size) : Below B w w' := ⟨h.os, h.tape, h.output, h.size, fun k hk => h.block k (by omega) (by omega)⟩
theorem But.low {b B : Nat} {w w1 w2 : World} (h : But b w w1) (k : Below B w1 w2) (hB : w.heap.size ≤ B) : But b w w2 :=
  ⟨k.os.trans h.os, k.tape.trans h.tape, k.output.trans h.output, Nat.le_trans h.size k.size, fun i hi hb => (k.block i (by omega)).trans (h.block i hi hb)⟩
def IsMapAt (w : World) (b : Nat) : Prop := ∃ es clock, w.heap[b]? = some (.map es clock)
theorem IM.is {w : World} {b n : Nat} {M : Int → Option Value} (h : IM w b n M) : IsMapAt w b := by
  obtain ⟨D, ⟨es, clock, hh, _⟩, _⟩ := h
  exact ⟨es, clock, hh⟩
theorem But.cells {b : Nat} {w w' : World} (h : But b w w') (hb : IsMapAt w b) {g : Nat} {cs : Array Value} {ty : TypeId} {m : Nat × Nat} (hg : w.heap[g]? = some (.cells cs ty m)) : w'.heap[g]? = some (.cells cs ty m) := by
  refine (h.block g (heap_lt hg) ?_).trans hg
  rintro rfl
  obtain ⟨es, clock, hh⟩ := hb
  rw [hh] at hg
  cases hg
theorem TP.but {b : Nat} {w w' : World} {S : Nat → Prop} {t : T} {v : Value} (ht : TP w S t v) (h : But b w w') (hb : IsMapAt w b) : TP w' S t v := ht.keep fun _ _ _ hS hh => ⟨h.cells hb hh, hS⟩
theorem EnvP.but {b : Nat} {w w' : World} {eb mb N : Nat} {L : Bs} (h : EnvP w eb mb N L) (hw : But b w w') (hb : IsMapAt w b) (hne : mb ≠ b) : EnvP w' eb mb N L := by
  obtain ⟨M, hM, hL⟩ := h.map
  refine ⟨hw.cells hb h.blk, h.few, ⟨M, hM.keep (hw.block mb hM.lt hne), fun i => ⟨(hL i).1, fun t ht => ?_⟩⟩, h.ok⟩
  obtain ⟨v, h1, h2⟩ := (hL i).2 t ht
  exact ⟨v, h1, h2.but hw hb⟩
/-- A list of different numbers below n is no longer than n. -/
theorem nodup_few : ∀ (n : Nat) (l : List Int), l.Nodup → (∀ i ∈ l, 0 ≤ i ∧ i < (n : Int)) → l.length ≤ n := by
  intro n
  induction n with
  | zero =>
    intro l _ h
    cases l with
    | nil => simp
    | cons a l => have := h a List.mem_cons_self; omega
  | succ n ih =>
    intro l hl h
    have h1 := ih (l.erase (n : Int)) (hl.erase _) fun i hi => by
      have h2 := h i (List.mem_of_mem_erase hi)
      have h3 : i ≠ (n : Int) := fun e => by rw [e] at hi; exact (hl.not_mem_erase hi)
      omega
    have := List.length_erase (a := (n : Int)) (l := l)
    split at this <;> omega
def seenM (S : List Int) : Int → Option Value := fun i => if i ∈ S then some (.bool true) else none
theorem seenM_put (S : List Int) (i : Int) : putI (seenM S) i (.bool true) = seenM (i :: S) := by
  funext j
  by_cases h : j = i <;> simp [putI, seenM, h]
def fn77 (E Nb Sb Wb : Nat) : Value := .func (.func 77) #[] #[.pointer (some ⟨E, 0, none⟩), .pointer (some ⟨Nb, 0, none⟩), .pointer (some ⟨Sb, 0, none⟩), .pointer (some ⟨Wb, 0, none⟩)]
/-- Where the closure of occurs stands. -/
structure Oc (w : World) (E Nb Sb Wb eb mb sb N : Nat) (n : Int) (L : Bs) (S : List Int) : Prop where
  env : EnvP w eb mb N L
  be : w.heap[E]? = some (.cells #[.pointer (some ⟨eb, 0, none⟩)] 24 (0, 0))
  bn : w.heap[Nb]? = some (.cells #[.int .i64 n] 3 (0, 0))
  bs : w.heap[Sb]? = some (.cells #[.map (some sb)] 110 (0, 0))
  bw : w.heap[Wb]? = some (.cells #[fn77 E Nb Sb Wb] 122 (0, 0))
  seen : IM w sb S.length (seenM S)
  ne : mb ≠ sb
  nd : S.Nodup
  inr : ∀ i ∈ S, 0 ≤ i ∧ i < 1000
theorem Oc.few {w : World} {E Nb Sb Wb eb mb sb N : Nat} {n : Int} {L : Bs} {S : List Int} (h : Oc w E Nb Sb Wb eb mb sb N n L S) : S.length ≤ 1000 := nodup_few 1000 S h.nd h.inr
theorem Oc.below {w w' : World} {E Nb Sb Wb eb mb sb N : Nat} {n : Int} {L : Bs} {S : List Int} (h : Oc w E Nb Sb Wb eb mb sb N n L S) (hb : Below w.heap.size w w') : Oc w' E Nb Sb Wb eb mb sb N n L S :=
  have key := fun {g : Nat} {o : Obj} (hg : w.heap[g]? = some o) => (hb.block g (heap_lt hg)).trans hg
  ⟨h.env.below hb, key h.be, key h.bn, key h.bs, key h.bw, h.seen.keep (hb.block sb h.seen.lt), h.ne, h.nd, h.inr⟩
theorem zeroB (w : World) : (zeroValue 4).run Try.prog w = .ok (.bool false) w := by kernel_rfl
theorem Oc.asked {w : World} {E Nb Sb Wb eb mb sb N : Nat} {n : Int} {L : Bs} {S : List Int} (h : Oc w E Nb Sb Wb eb mb sb N n L S) {i : Int} (h0 : 0 ≤ i) (h1 : i < 1000) :
    (Instr.lookup 110 (.map (some sb)) (.int .i64 i) false).run Try.prog w = .ok (.bool (decide (i ∈ S))) w := by
  have := h.seen.look1 Try.underlying110 (zeroB w) (i := i) ⟨by omega, by omega⟩
  rw [this]
  by_cases hi : i ∈ S <;> simp [seenM, hi]
/-- A variable more was gone into. -/
theorem Oc.mark {w : World} {E Nb Sb Wb eb mb sb N : Nat} {n : Int} {L : Bs} {S : List Int} (h : Oc w E Nb Sb Wb eb mb sb N n L S) {i : Int} (h0 : 0 ≤ i) (h1 : i < 1000) (hi : i ∉ S) :
    ∃ w', (Instr.mapUpdate 110 (.map (some sb)) (.int .i64 i) (.bool true)).run Try.prog w = .ok () w' ∧ Oc w' E Nb Sb Wb eb mb sb N n L (i :: S) ∧ But sb w w' := by
  obtain ⟨w', hrun, hM, ht⟩ := h.seen.store Try.underlying110 (by have := h.few; unfold maxLen; omega) (i := i) ⟨by omega, by omega⟩ (.bool true)
  have hbut := But.turned ht
  have his := h.seen.is
  rw [seenM_put] at hM
  exact ⟨w', hrun, ⟨h.env.but hbut his h.ne, hbut.cells his h.be, hbut.cells his h.bn, hbut.cells his h.bs, hbut.cells his h.bw, hM, h.ne, List.nodup_cons.mpr ⟨hi, h.nd⟩, fun j hj => by
    rcases List.mem_cons.mp hj with rfl | hj
    · exact ⟨h0, h1⟩
    · exact h.inr j hj⟩, hbut⟩
/-- The same closure, behind whatever left its boxes alone. -/
theorem Oc.re {w w' : World} {E Nb Sb Wb eb mb sb N : Nat} {n : Int} {L : Bs} {S S' : List Int} (h : Oc w E Nb Sb Wb eb mb sb N n L S) (hb : But sb w w') (hM : IM w' sb S'.length (seenM S')) (hn : S'.Nodup) (hi : ∀ i ∈ S', 0 ≤ i ∧ i < 1000) : Oc w' E Nb Sb Wb eb mb sb N n L S' :=
  have his := h.seen.is
  ⟨h.env.but hb his h.ne, hb.cells his h.be, hb.cells his h.bn, hb.cells his h.bs, hb.cells his h.bw, hM, h.ne, hn, hi⟩
/-- A term's arguments, by its blocks. -/
theorem TP.args {w : World} {S : Nat → Prop} {k n : Int} {s : ByteArray} {m : Nat} {a : Nat → T} {v0 v1 v2 : Value} {A : Option Addr} {m' c : Nat} (h : TP w S (.mk k n s m a) (.agg #[v0, v1, v2, .slice A m' c])) :
    v0 = .int .i64 k ∧ v1 = .int .i64 n ∧ v2 = .string s ∧ m' = m ∧ m ≤ c ∧ (A = none → c = 0) ∧ ∀ i, i < m → ∃ (b : Nat) (k0 k1 : Int) (k2 : ByteArray) (A0 : Option Addr) (m0 c0 : Nat), A = some ⟨b, 0, none⟩ ∧ S b ∧ b < w.heap.size ∧ w.cell? ⟨b, i * 4, none⟩ = some (.int .i64 k0) ∧ w.cell? ⟨b, i * 4 + 1, none⟩ = some (.int .i64 k1) ∧
      w.cell? ⟨b, i * 4 + 2, none⟩ = some (.string k2) ∧ w.cell? ⟨b, i * 4 + 3, none⟩ = some (.slice A0 m0 c0) ∧ TP w S (a i) (.agg #[.int .i64 k0, .int .i64 k1, .string k2, .slice A0 m0 c0]) := by
  obtain ⟨A', c', e, hmc, hA, hx⟩ := h
  injection e with e
  simp only [Array.mk.injEq, List.cons.injEq, and_true] at e
  obtain ⟨rfl, rfl, rfl, e⟩ := e
  injection e with e1 e2 e3
  subst e1; subst e2; subst e3
  refine ⟨rfl, rfl, rfl, rfl, hmc, hA, fun i hi => ?_⟩
  obtain ⟨b, cs, f, rfl, hS, hb, hc⟩ := hx (by omega)
  obtain ⟨v0, v1, v2, v3, c0, c1, c2, c3, ht⟩ := hc i hi
  obtain ⟨k0, k1, k2, A0, m0, c0', he⟩ := ht.agg
  injection he with he
  simp only [Array.mk.injEq, List.cons.injEq, and_true] at he
  obtain ⟨rfl, rfl, rfl, rfl⟩ := he
  have hr := fun (j : Nat) => cell_of_row w b j _ _ _ hb
  rw [Nat.mul_comm 4 i] at c0 c1 c2 c3
  exact ⟨b, k0, k1, k2, A0, m0, c0', rfl, hS, heap_lt hb, (hr _).trans c0, (hr _).trans c1, (hr _).trans c2, (hr _).trans c3, ht⟩
end Go.Proofs.Ytjjkigphfijnbaa
