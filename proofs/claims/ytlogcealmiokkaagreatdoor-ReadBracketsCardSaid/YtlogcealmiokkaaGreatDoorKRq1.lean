/- The program's parser: its reader in memory, over what the reference's reader shares. -/
import Derived.Test.YtlogcealmiokkaaGreatDoorKGc
import Derived.Test.YtlogcealmiokkaaGreatDoorKRq0
namespace Go.Proofs.YtlogcealmiokkaaGreatDoor
open Go.RowKit
def TokAt (c : Rdc) (j : Nat) (v : Value) : Prop := ∃ A cc, v = .slice A (c.tn - j) cc ∧ c.tn - j ≤ cc ∧ (j < c.tn → ∀ g, c.TA = some ⟨g, 0, none⟩ → A = some ⟨g, j * 4, none⟩)
structure PdW (w : World) (c : Rdc) (j : Nat) (lv nv : Value) (nn : Nat) (names : List ByteArray) : Prop where
 blk : w.heap[c.R]? = some (.cells #[.string c.s, lv, nv] 53 (0, 0))
 lok : TokAt c j lv
 own : w.ownsRow (c.B + c.N) 9 1 nv nn (names.map Value.string)
 up : j ≤ c.tn
 few : nn ≤ j
def Pd (w : World) (c : Rdc) (j : Nat) (names : List ByteArray) : Prop := TokW w c ∧ (∀ x ∈ c.tk, x.fine) ∧ ∃ lv nv nn, PdW w c j lv nv nn names
theorem Pd.lt {w : World} {c : Rdc} {j : Nat} {ns : List ByteArray} (h : Pd w c j ns) : c.R < w.heap.size := by
 obtain ⟨_, _, _, _, _, h⟩ := h
 exact heap_lt h.blk
theorem Pd.base {w : World} {c : Rdc} {j : Nat} {ns : List ByteArray} (h : Pd w c j ns) : c.B ≤ w.heap.size := Nat.le_trans h.1.BR (Nat.le_of_lt h.lt)
theorem Pd.up {w : World} {c : Rdc} {j : Nat} {ns : List ByteArray} (h : Pd w c j ns) : j ≤ c.tn := by
 obtain ⟨_, _, _, _, _, h⟩ := h
 exact h.up
theorem Pd.names {w : World} {c : Rdc} {j : Nat} {ns : List ByteArray} (h : Pd w c j ns) : ns.length ≤ j := by
 obtain ⟨_, _, _, _, nn, h⟩ := h
 have h1 := own_len h.own
 rw [List.length_map] at h1
 have := h.few
 omega
structure Frp (c : Rdc) (w w' : World) : Prop where
 low : Below c.B w w'
 keep : ∀ (b : Nat) (cs : Array Value) (t : TypeId) (m : Nat × Nat), w.heap[b]? = some (.cells cs t m) → b ≠ c.R → (t = 9 → b < c.B + c.N) → w'.heap[b]? = some (.cells cs t m)
theorem Frp.refl (c : Rdc) (w : World) : Frp c w w := ⟨Below.refl _ _, fun _ _ _ _ h _ _ => h⟩
theorem Frp.trans {c : Rdc} {w w1 w2 : World} (h : Frp c w w1) (h' : Frp c w1 w2) : Frp c w w2 := ⟨h.low.trans h'.low, fun b cs t m hb hR ht => h'.keep b cs t m (h.keep b cs t m hb hR ht) hR ht⟩
theorem Frp.of_below {c : Rdc} {w w' : World} (h : Below w.heap.size w w') (hB : c.B ≤ w.heap.size) : Frp c w w' := ⟨h.mono hB, fun b _ _ _ hb _ _ => (h.block b (heap_lt hb)).trans hb⟩
theorem Frp.size {c : Rdc} {w w' : World} (h : Frp c w w') : w.heap.size ≤ w'.heap.size := h.low.size
theorem Frp.setR {c : Rdc} {w : World} (hB : c.B ≤ c.R) (i : Nat) (u : Value) : Frp c w (w.setCell ⟨c.R, i, none⟩ u) :=
 ⟨(Below.refl _ _).setCell (p := ⟨c.R, i, none⟩) hB u, fun _ _ _ _ hb hne _ => (Below.heap_setCell _ _ _ _ hne).trans hb⟩
theorem Frp.boxp {c : Rdc} {w w' : World} {j : Nat} {ns : List ByteArray} (h : Frp c w w') (hr : Pd w c j ns) {b : Nat} {cs : Array Value} {t : TypeId} {m : Nat × Nat} (hb : w.heap[b]? = some (.cells cs t m))
 (h1 : t ≠ 9) (h2 : t ≠ 53) : w'.heap[b]? = some (.cells cs t m) := by
 refine h.keep b cs t m hb (fun e => ?_) (fun e => absurd e h1)
 subst e
 obtain ⟨_, _, _, _, _, hr⟩ := hr
 rw [hr.blk] at hb
 injection hb with hb
 injection hb with _ hb
 exact h2 hb.symm
theorem TP.frp {c : Rdc} {w w' : World} {j : Nat} {ns : List ByteArray} {S : Nat → Prop} {t : T} {v : Value} (ht : TP w S t v) (h : Frp c w w') (hr : Pd w c j ns) : TP w' S t v :=
 ht.keep fun _ _ _ hS hb => ⟨h.boxp hr hb (by decide) (by decide), hS⟩
theorem Pd.below {w w' : World} {c : Rdc} {j : Nat} {ns : List ByteArray} (h : Pd w c j ns) (hb : Below w.heap.size w w') : Pd w' c j ns := by
 obtain ⟨ht, hf, lv, nv, nn, hr⟩ := h
 exact ⟨ht.keep fun b cs h => hb.block b (heap_lt h), hf, lv, nv, nn, (hb.block _ (heap_lt hr.blk)).trans hr.blk, hr.lok, own_below hr.own hb, hr.up, hr.few⟩
theorem Pd.alloc {w : World} {c : Rdc} {j : Nat} {ns : List ByteArray} (h : Pd w c j ns) (o : Obj) : Pd (w.alloc o) c j ns := h.below ((Below.refl _ _).alloc (Nat.le_refl _) o)
theorem Pd.set_far {w : World} {c : Rdc} {j : Nat} {ns : List ByteArray} (h : Pd w c j ns) {b : Nat} {cs : Array Value} {t : TypeId} {m : Nat × Nat} (hb : w.heap[b]? = some (.cells cs t m)) (i : Nat) (u : Value)
 (h1 : t ≠ 9) (h2 : t ≠ 53) (h3 : t ≠ 60) : Pd (w.setCell ⟨b, i, none⟩ u) c j ns := by
 have key : ∀ (g : Nat) (cs' : Array Value) (t' : TypeId) (m' : Nat × Nat), w.heap[g]? = some (.cells cs' t' m') → t ≠ t' → (w.setCell ⟨b, i, none⟩ u).heap[g]? = w.heap[g]? := fun g cs' t' m' hg hne => Below.heap_setCell _ _ _ _ (by
  rintro rfl
  rw [show w.heap[_]? = _ from hb] at hg
  injection hg with hg
  injection hg with _ hg
  exact hne hg)
 obtain ⟨ht, hf, lv, nv, nn, hr⟩ := h
 refine ⟨ht.keep fun g cs hg => key g _ _ _ hg h3, hf, lv, nv, nn, (key _ _ _ _ hr.blk h2).trans hr.blk, hr.lok, own_keep hr.own fun g hg => ?_, hr.up, hr.few⟩
 rcases hr.own.2 with ⟨hv, _⟩ | ⟨g', cap, cur, hv, _, hh, _⟩
 ·rw [hv] at hg; simp [Value.ownBlock] at hg
 ·rw [hv] at hg
  simp [Value.ownBlock] at hg
  subst hg
  exact key _ _ _ _ hh h1
theorem PdW.cells {w : World} {c : Rdc} {j : Nat} {lv nv : Value} {nn : Nat} {names : List ByteArray} (h : PdW w c j lv nv nn names) :
 w.cell? ⟨c.R, 0, none⟩ = some (.string c.s) ∧ w.cell? ⟨c.R, 1, none⟩ = some lv ∧ w.cell? ⟨c.R, 2, none⟩ = some nv :=
 ⟨cell_of_row w _ 0 _ _ _ h.blk, cell_of_row w _ 1 _ _ _ h.blk, cell_of_row w _ 2 _ _ _ h.blk⟩
theorem PdW.thaw {w : World} {c : Rdc} {j : Nat} {lv nv : Value} {nn : Nat} {names : List ByteArray} (h : PdW w c j lv nv nn names) (i : Nat) : w.frozen? ⟨c.R, i, none⟩ = false := by
 simp [World.frozen?, h.blk]
theorem TokW.setRp {w : World} {c : Rdc} {j : Nat} {lv nv : Value} {nn : Nat} {names : List ByteArray} (ht : TokW w c) (h : PdW w c j lv nv nn names) (i : Nat) (u : Value) : TokW (w.setCell ⟨c.R, i, none⟩ u) c :=
 ht.keep fun _ cs hb => Below.heap_setCell _ _ _ _ (by
  rintro rfl
  rw [h.blk] at hb
  injection hb with hb
  injection hb with _ hb
  exact absurd hb (by decide))
theorem own_setRp {w : World} {c : Rdc} {j : Nat} {lv nv : Value} {nn : Nat} {names : List ByteArray} (h : PdW w c j lv nv nn names) {v : Value} {n : Nat} {xs : List Value} (ho : w.ownsRow (c.B + c.N) 9 1 v n xs) (i : Nat) (u : Value) :
 (w.setCell ⟨c.R, i, none⟩ u).ownsRow (c.B + c.N) 9 1 v n xs :=
 own_keep ho fun g hg => Below.heap_setCell _ _ _ _ (by
  rintro rfl
  rcases ho.2 with ⟨hv, _⟩ | ⟨g', cap, cur, hv, _, hh, _⟩
  ·rw [hv] at hg; simp [Value.ownBlock] at hg
  ·rw [hv] at hg
   simp [Value.ownBlock] at hg
   subst hg
   rw [h.blk] at hh
   injection hh with hh
   injection hh with _ hh
   exact absurd hh (by decide))
theorem Pd.next {w : World} {c : Rdc} {j : Nat} {lv nv : Value} {nn : Nat} {ns : List ByteArray} (ht : TokW w c) (hf : ∀ x ∈ c.tk, x.fine) (hr : PdW w c j lv nv nn ns) (hlt : j < c.tn) {lv' : Value} (hl : TokAt c (j + 1) lv') : Pd (w.setCell ⟨c.R, 1, none⟩ lv') c (j + 1) ns :=
 ⟨ht.setRp hr _ _, hf, lv', nv, nn, by simpa using blk_set hr.blk 1 lv', hl, own_setRp hr hr.own _ _, hlt, Nat.le_succ_of_le hr.few⟩
theorem nx_ltp {w : World} {c : Rdc} {j : Nat} {ns : List ByteArray} (h : Pd w c j ns) (hk : (nx c j).k ≠ 0) : j < c.tn := by
 have hl := h.1.len
 rcases Nat.lt_or_ge j c.tn with h1 | h1
 ·exact h1
 ·simp [nx, nxT, show ¬ j < c.tk.length by omega] at hk
theorem nx_sizep {w : World} {c : Rdc} {j : Nat} {ns : List ByteArray} (h : Pd w c j ns) : nameOk (nx c j).t := by
 unfold nx nxT
 split
 ·rename_i hlt
  exact ⟨Nat.le_trans (h.1.ok _ (List.getElem_mem hlt)).2.2.1 h.1.long, h.1.nm _ (List.getElem_mem hlt)⟩
 ·exact (show nameOk ⟨#[]⟩ by decide)
def wrongP (p e : Int) : PanicEntry := { v := .iface 50 (.agg #[.int .i64 p, .int .i64 e]), recovered := false }
def PQ {α : Type} (c : Rdc) (w : World) (i : Nat) (res : PR α) (rel : α → Nat → Value → World → Prop) (e : Ending) (w' : World) : Prop :=
 Frp c w w' ∧ match res with
 | .ok (x, j, ns) => ∃ v, e = .returned v ∧ Pd w' c j ns ∧ i ≤ j ∧ rel x j v w'
 | .error (p, k) => e = .panicked [wrongP p k]
theorem PQ.ok {α : Type} {c : Rdc} {w : World} {i : Nat} {res : PR α} {rel : α → Nat → Value → World → Prop} {e : Ending} {w' : World} (h : PQ c w i res rel e w') {x : α} {j : Nat} {ns : List ByteArray} (hr : res = .ok (x, j, ns)) :
 Frp c w w' ∧ ∃ v, e = .returned v ∧ Pd w' c j ns ∧ i ≤ j ∧ rel x j v w' := by subst hr; exact h
theorem PQ.err {α : Type} {c : Rdc} {w : World} {i : Nat} {res : PR α} {rel : α → Nat → Value → World → Prop} {e : Ending} {w' : World} (h : PQ c w i res rel e w') {p k : Int} (hr : res = .error (p, k)) :
 Frp c w w' ∧ e = .panicked [wrongP p k] := by subst hr; exact h
end Go.Proofs.YtlogcealmiokkaaGreatDoor
