/- The reference's parser: its reader in memory; what a call leaves alone; terms in blocks of terms. -/
import Derived.Test.YtlgeepjlnjlgdaaTk
import Derived.Test.YtlgeepjlnjlgdaaTerm
namespace Go.Proofs.Ytlgeepjlnjlgdaa
open Go.RowKit

/-- A term in memory: each row of arguments lies in a block of terms that S allows, from its first cell on. -/
def TP (w : World) (S : Nat → Prop) : T → Value → Prop
  | .nil, _ => False
  | .mk k n s m a, v => ∃ A c, v = .agg #[.int .i64 k, .int .i64 n, .string s, .slice A m c] ∧ m ≤ c ∧ (A = none → c = 0) ∧
      (0 < m → ∃ b cs f, A = some ⟨b, 0, none⟩ ∧ S b ∧ w.heap[b]? = some (.cells cs 24 f) ∧ ∀ i, i < m → ∃ v0 v1 v2 v3, cs[4 * i]? = some v0 ∧ cs[4 * i + 1]? = some v1 ∧
        cs[4 * i + 2]? = some v2 ∧ cs[4 * i + 3]? = some v3 ∧ TP w S (a i) (.agg #[v0, v1, v2, v3]))
theorem TP.keep {w w' : World} {S S' : Nat → Prop} (h : ∀ b cs f, S b → w.heap[b]? = some (.cells cs 24 f) → w'.heap[b]? = some (.cells cs 24 f) ∧ S' b) :
    ∀ {t : T} {v : Value}, TP w S t v → TP w' S' t v := by
  intro t
  induction t with
  | nil => exact fun h => h.elim
  | mk k n s m a ih =>
    rintro v ⟨A, c, rfl, hmc, hA, hx⟩
    refine ⟨A, c, rfl, hmc, hA, fun hm => ?_⟩
    obtain ⟨b, cs, f, rfl, hS, hb, hc⟩ := hx hm
    refine ⟨b, cs, f, rfl, (h b cs f hS hb).2, (h b cs f hS hb).1, fun i hi => ?_⟩
    obtain ⟨v0, v1, v2, v3, h0, h1, h2, h3, ht⟩ := hc i hi
    exact ⟨v0, v1, v2, v3, h0, h1, h2, h3, ih i ht⟩
theorem TP.more {w : World} {S S' : Nat → Prop} (h : ∀ b, S b → S' b) {t : T} {v : Value} (ht : TP w S t v) : TP w S' t v := ht.keep fun b _ _ hS hb => ⟨hb, h b hS⟩
theorem TP.tin {w : World} {S : Nat → Prop} : ∀ {t : T} {v : Value}, TP w S t v → TIn w w.heap.size t v := by
  intro t
  induction t with
  | nil => exact fun h => h.elim
  | mk k n s m a ih =>
    rintro v ⟨A, c, rfl, hmc, hA, hx⟩
    refine ⟨A, c, rfl, hmc, hA, fun hm => ?_⟩
    obtain ⟨b, cs, f, rfl, _, hb, hc⟩ := hx hm
    refine ⟨b, 0, rfl, heap_lt hb, fun i hi => ?_⟩
    obtain ⟨v0, v1, v2, v3, h0, h1, h2, h3, ht⟩ := hc i hi
    have hr := fun (j : Nat) => cell_of_row w b j _ _ _ hb
    simp only [Nat.zero_add]
    exact ⟨v0, v1, v2, v3, (hr _).trans h0, (hr _).trans h1, (hr _).trans h2, (hr _).trans h3, ih i ht⟩
theorem TP.agg {w : World} {S : Nat → Prop} {t : T} {v : Value} (h : TP w S t v) : ∃ k n s A m c, v = .agg #[.int .i64 k, .int .i64 n, .string s, .slice A m c] := by
  cases t with
  | nil => exact h.elim
  | mk k n s m a => obtain ⟨A, c, rfl, _⟩ := h; exact ⟨_, _, _, _, _, _, rfl⟩
/-- A term without arguments. -/
theorem TP.leaf (w : World) (S : Nat → Prop) (k n : Int) (s : ByteArray) : TP w S (.mk k n s 0 fun _ => .nil) (.agg #[.int .i64 k, .int .i64 n, .string s, .slice none 0 0]) :=
  ⟨none, 0, rfl, Nat.le_refl _, fun _ => rfl, fun h => absurd h (by decide)⟩

/-- What does not turn while a reader reads: where it lies, the first block that is its own, its text, its tokens. -/
structure Rdc where
  R : Nat
  B : Nat
  s : ByteArray
  TA : Option Addr
  tn : Nat
  tc : Nat
  tk : List Tk
structure TokW (w : World) (c : Rdc) : Prop where
  len : c.tk.length = c.tn
  few : c.tn ≤ 1000
  long : c.s.size ≤ 4096
  ok : ∀ x ∈ c.tk, x.ok c.s.size
  cap : c.tn ≤ c.tc
  nil : c.TA = none → c.tc = 0
  BR : c.B ≤ c.R
  blk : 0 < c.tn → ∃ g cur, c.TA = some ⟨g, 0, none⟩ ∧ w.heap[g]? = some (.cells cur 72 (0, 0)) ∧ ∀ j, j < c.tn * 4 → cur[j]? = (tkCells c.tk)[j]?
structure RdW (w : World) (c : Rdc) (at_ : Nat) (nv : Value) (nn : Nat) (names : List ByteArray) (place er : Int) : Prop where
  blk : w.heap[c.R]? = some (.cells #[.string c.s, .slice c.TA c.tn c.tc, .int .i64 (at_ : Int), nv, .int .i64 place, .int .i64 er] 92 (0, 0))
  own : w.ownsRow c.B 9 1 nv nn (names.map Value.string)
  up : at_ ≤ c.tn
  few : nn ≤ at_
/-- The reader: it stands at token 'at_', its error is 'er'. -/
def Rd (w : World) (c : Rdc) (at_ : Nat) (er : Int) : Prop := TokW w c ∧ ∃ nv nn names place, RdW w c at_ nv nn names place er
theorem Rd.mk {w : World} {c : Rdc} {at_ : Nat} {nv : Value} {nn : Nat} {names : List ByteArray} {place er : Int} (h : TokW w c) (h' : RdW w c at_ nv nn names place er) : Rd w c at_ er := ⟨h, _, _, _, _, h'⟩
/-- What a call of a reader's leaves alone: all below its first own block, all blocks but the reader's and those of strings. -/
structure Fr (c : Rdc) (w w' : World) : Prop where
  low : Below c.B w w'
  keep : ∀ (b : Nat) (cs : Array Value) (t : TypeId) (m : Nat × Nat), w.heap[b]? = some (.cells cs t m) → b ≠ c.R → t ≠ 9 → w'.heap[b]? = some (.cells cs t m)
theorem Fr.refl (c : Rdc) (w : World) : Fr c w w := ⟨Below.refl _ _, fun _ _ _ _ h _ _ => h⟩
theorem Fr.trans {c : Rdc} {w w1 w2 : World} (h : Fr c w w1) (h' : Fr c w1 w2) : Fr c w w2 := ⟨h.low.trans h'.low, fun b cs t m hb hR ht => h'.keep b cs t m (h.keep b cs t m hb hR ht) hR ht⟩
theorem Rd.lt {w : World} {c : Rdc} {at_ : Nat} {er : Int} (h : Rd w c at_ er) : c.R < w.heap.size := by
  obtain ⟨_, _, _, _, _, h⟩ := h
  exact heap_lt h.blk
theorem Rd.base {w : World} {c : Rdc} {at_ : Nat} {er : Int} (h : Rd w c at_ er) : c.B ≤ w.heap.size := Nat.le_trans h.1.BR (Nat.le_of_lt h.lt)
theorem Fr.of_below {c : Rdc} {w w' : World} (h : Below w.heap.size w w') (hB : c.B ≤ w.heap.size) : Fr c w w' := ⟨h.mono hB, fun b _ _ _ hb _ _ => (h.block b (heap_lt hb)).trans hb⟩
theorem Fr.size {c : Rdc} {w w' : World} (h : Fr c w w') : w.heap.size ≤ w'.heap.size := h.low.size
/-- A block of another type than the reader's and the strings'. -/
theorem Fr.box {c : Rdc} {w w' : World} {at_ : Nat} {er : Int} (h : Fr c w w') (hr : Rd w c at_ er) {b : Nat} {cs : Array Value} {t : TypeId} {m : Nat × Nat} (hb : w.heap[b]? = some (.cells cs t m))
    (h1 : t ≠ 9) (h2 : t ≠ 92) : w'.heap[b]? = some (.cells cs t m) := by
  refine h.keep b cs t m hb (fun e => ?_) h1
  subst e
  obtain ⟨_, _, _, _, _, hr⟩ := hr
  rw [hr.blk] at hb
  injection hb with hb
  injection hb with _ hb
  exact h2 hb.symm
theorem TP.fr {c : Rdc} {w w' : World} {at_ : Nat} {er : Int} {S : Nat → Prop} {t : T} {v : Value} (ht : TP w S t v) (h : Fr c w w') (hr : Rd w c at_ er) : TP w' S t v :=
  ht.keep fun _ _ _ hS hb => ⟨h.box hr hb (by decide) (by decide), hS⟩
theorem TokW.keep {w w' : World} {c : Rdc} (h : TokW w c) (hk : ∀ (b : Nat) (cs : Array Value), w.heap[b]? = some (.cells cs 72 (0, 0)) → w'.heap[b]? = w.heap[b]?) : TokW w' c :=
  ⟨h.len, h.few, h.long, h.ok, h.cap, h.nil, h.BR, fun h0 => by
    obtain ⟨g, cur, hA, hg, hc⟩ := h.blk h0
    exact ⟨g, cur, hA, (hk g cur hg).trans hg, hc⟩⟩
theorem Rd.below {w w' : World} {c : Rdc} {at_ : Nat} {er : Int} (h : Rd w c at_ er) (hb : Below w.heap.size w w') : Rd w' c at_ er := by
  obtain ⟨ht, nv, nn, names, place, hr⟩ := h
  exact ⟨ht.keep fun b cs h => hb.block b (heap_lt h), nv, nn, names, place, (hb.block _ (heap_lt hr.blk)).trans hr.blk, own_below hr.own hb, hr.up, hr.few⟩
theorem Rd.alloc {w : World} {c : Rdc} {at_ : Nat} {er : Int} (h : Rd w c at_ er) (o : Obj) : Rd (w.alloc o) c at_ er := h.below ((Below.refl _ _).alloc (Nat.le_refl _) o)
/-- A cell of a block that is not the reader's, nor one of tokens or strings. -/
theorem Rd.set_far {w : World} {c : Rdc} {at_ : Nat} {er : Int} (h : Rd w c at_ er) {b : Nat} {cs : Array Value} {t : TypeId} {m : Nat × Nat} (hb : w.heap[b]? = some (.cells cs t m)) (i : Nat) (u : Value)
    (h1 : t ≠ 9) (h2 : t ≠ 92) (h3 : t ≠ 72) : Rd (w.setCell ⟨b, i, none⟩ u) c at_ er := by
  have key : ∀ (g : Nat) (cs' : Array Value) (t' : TypeId) (m' : Nat × Nat), w.heap[g]? = some (.cells cs' t' m') → t ≠ t' → (w.setCell ⟨b, i, none⟩ u).heap[g]? = w.heap[g]? := fun g cs' t' m' hg hne => Below.heap_setCell _ _ _ _ (by
    rintro rfl
    rw [show w.heap[_]? = _ from hb] at hg
    injection hg with hg
    injection hg with _ hg
    exact hne hg)
  obtain ⟨ht, nv, nn, names, place, hr⟩ := h
  refine ⟨ht.keep fun g cs hg => key g _ _ _ hg h3, nv, nn, names, place, (key _ _ _ _ hr.blk h2).trans hr.blk, own_keep hr.own fun g hg => ?_, hr.up, hr.few⟩
  rcases hr.own.2 with ⟨hv, _⟩ | ⟨g', cap, cur, hv, _, hh, _⟩
  · rw [hv] at hg; simp [Value.ownBlock] at hg
  · rw [hv] at hg
    simp [Value.ownBlock] at hg
    subst hg
    exact key _ _ _ _ hh h1
/-- The reader's cells. -/
theorem RdW.cells {w : World} {c : Rdc} {at_ : Nat} {nv : Value} {nn : Nat} {names : List ByteArray} {place er : Int} (h : RdW w c at_ nv nn names place er) :
    w.cell? ⟨c.R, 0, none⟩ = some (.string c.s) ∧ w.cell? ⟨c.R, 1, none⟩ = some (.slice c.TA c.tn c.tc) ∧ w.cell? ⟨c.R, 2, none⟩ = some (.int .i64 (at_ : Int)) ∧ w.cell? ⟨c.R, 3, none⟩ = some nv ∧
      w.cell? ⟨c.R, 4, none⟩ = some (.int .i64 place) ∧ w.cell? ⟨c.R, 5, none⟩ = some (.int .i64 er) :=
  ⟨cell_of_row w _ 0 _ _ _ h.blk, cell_of_row w _ 1 _ _ _ h.blk, cell_of_row w _ 2 _ _ _ h.blk, cell_of_row w _ 3 _ _ _ h.blk, cell_of_row w _ 4 _ _ _ h.blk, cell_of_row w _ 5 _ _ _ h.blk⟩
theorem RdW.thaw {w : World} {c : Rdc} {at_ : Nat} {nv : Value} {nn : Nat} {names : List ByteArray} {place er : Int} (h : RdW w c at_ nv nn names place er) (i : Nat) : w.frozen? ⟨c.R, i, none⟩ = false := by
  simp [World.frozen?, h.blk]
theorem Fr.setR {c : Rdc} {w : World} (hB : c.B ≤ c.R) (i : Nat) (u : Value) : Fr c w (w.setCell ⟨c.R, i, none⟩ u) :=
  ⟨(Below.refl _ _).setCell (p := ⟨c.R, i, none⟩) hB u, fun _ _ _ _ hb hne _ => (Below.heap_setCell _ _ _ _ hne).trans hb⟩
theorem TokW.setR {w : World} {c : Rdc} {at_ : Nat} {nv : Value} {nn : Nat} {names : List ByteArray} {place er : Int} (ht : TokW w c) (h : RdW w c at_ nv nn names place er) (i : Nat) (u : Value) : TokW (w.setCell ⟨c.R, i, none⟩ u) c :=
  ht.keep fun _ cs hb => Below.heap_setCell _ _ _ _ (by
    rintro rfl
    rw [h.blk] at hb
    injection hb with hb
    injection hb with _ hb
    exact absurd hb (by decide))
theorem own_setR {w : World} {c : Rdc} {at_ : Nat} {nv : Value} {nn : Nat} {names : List ByteArray} {place er : Int} (h : RdW w c at_ nv nn names place er) (i : Nat) (u : Value) :
    (w.setCell ⟨c.R, i, none⟩ u).ownsRow c.B 9 1 nv nn (names.map Value.string) :=
  own_keep h.own fun g hg => Below.heap_setCell _ _ _ _ (by
    rintro rfl
    rcases h.own.2 with ⟨hv, _⟩ | ⟨g', cap, cur, hv, _, hh, _⟩
    · rw [hv] at hg; simp [Value.ownBlock] at hg
    · rw [hv] at hg
      simp [Value.ownBlock] at hg
      subst hg
      rw [h.blk] at hh
      injection hh with hh
      injection hh with _ hh
      exact absurd hh (by decide))
/-- One token on. -/
theorem Rd.next {w : World} {c : Rdc} {at_ : Nat} {er : Int} (h : Rd w c at_ er) (hlt : at_ < c.tn) : Rd (w.setCell ⟨c.R, 2, none⟩ (.int .i64 ((at_ : Int) + 1))) c (at_ + 1) er := by
  obtain ⟨ht, nv, nn, names, place, hr⟩ := h
  exact ⟨ht.setR hr _ _, nv, nn, names, place, by simpa using blk_set hr.blk 2 (.int .i64 ((at_ : Int) + 1)), own_setR hr _ _, hlt, Nat.le_succ_of_le hr.few⟩
theorem Rd.place {w : World} {c : Rdc} {at_ : Nat} {er : Int} (h : Rd w c at_ er) (p : Int) : Rd (w.setCell ⟨c.R, 4, none⟩ (.int .i64 p)) c at_ er := by
  obtain ⟨ht, nv, nn, names, place, hr⟩ := h
  exact ⟨ht.setR hr _ _, nv, nn, names, p, by simpa using blk_set hr.blk 4 (.int .i64 p), own_setR hr _ _, hr.up, hr.few⟩
theorem Rd.err {w : World} {c : Rdc} {at_ : Nat} {er : Int} (h : Rd w c at_ er) (p : Int) : Rd (w.setCell ⟨c.R, 5, none⟩ (.int .i64 p)) c at_ p := by
  obtain ⟨ht, nv, nn, names, place, hr⟩ := h
  exact ⟨ht.setR hr _ _, nv, nn, names, place, by simpa using blk_set hr.blk 5 (.int .i64 p), own_setR hr _ _, hr.up, hr.few⟩
/-- The token that comes: 0 behind the last one. -/
def nx (c : Rdc) (at_ : Nat) : Tk := if h : at_ < c.tk.length then c.tk[at_] else ⟨0, ⟨#[]⟩, c.s.size, 0⟩
theorem nx_lt {w : World} {c : Rdc} {at_ : Nat} {er : Int} (h : Rd w c at_ er) (hk : (nx c at_).k ≠ 0) : at_ < c.tn := by
  have hl := h.1.len
  rcases Nat.lt_or_ge at_ c.tn with h1 | h1
  · exact h1
  · simp [nx, show ¬ at_ < c.tk.length by omega] at hk
theorem nx_size {w : World} {c : Rdc} {at_ : Nat} {er : Int} (h : Rd w c at_ er) : (nx c at_).t.size ≤ 4096 := by
  unfold nx
  split
  · rename_i hlt
    exact Nat.le_trans (h.1.ok _ (List.getElem_mem hlt)).2.2.1 h.1.long
  · simp [ByteArray.size]
end Go.Proofs.Ytlgeepjlnjlgdaa
