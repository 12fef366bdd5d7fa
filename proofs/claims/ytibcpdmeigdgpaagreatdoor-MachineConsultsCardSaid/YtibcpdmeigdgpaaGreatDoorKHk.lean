/- Tokens, plain: what the marks are, digits; when a prefix operator has no argument; the infix loop's equations. The program's parser: its reader in memory, over what the reference's reader shares. The program's parser: peek, take, fail, mark, must. The program's parser: mark, must, cell, constant. -/
import Derived.Test.YtibcpdmeigdgpaaGreatDoorKGb
import Derived.Test.YtibcpdmeigdgpaaGreatDoorKGc
import Derived.Test.YtibcpdmeigdgpaaGreatDoorKHb
import Derived.Deep.DeepMust
import Derived.WalkLawsBesides
namespace Go.Proofs.YtibcpdmeigdgpaaGreatDoor
open Go.RowKit
def marksL : List UInt8 := [40, 41, 91, 93, 123, 125, 44, 124]
def Tk.fine (x : Tk) : Prop := (x.k = 5 → ∃ c, c ∈ marksL ∧ x.t = ba [c]) ∧ (x.k = 3 → x.t.data.toList ≠ [] ∧ ∀ c ∈ x.t.data.toList, 48 ≤ c.toNat ∧ c.toNat ≤ 57)
theorem fine_of {k : Int} {t : ByteArray} {a b : Nat} (h5 : k ≠ 5) (h3 : k ≠ 3) : Tk.fine ⟨k, t, a, b⟩ := ⟨fun e => absurd e h5, fun e => absurd e h3⟩
theorem extract_run {s : ByteArray} {f j : Nat} (hj : j ≤ s.size) (hf : f < j) : (s.extract f j).data.toList ≠ [] ∧ ∀ c ∈ (s.extract f j).data.toList, ∃ i, f ≤ i ∧ i < j ∧ c = bu s i := by
 have hl : (s.extract f j).data.toList = (s.data.toList.drop f).take (j - f) := by
  simp only [ByteArray.data_extract, Array.toList_extract, List.extract]
 have hs : s.data.toList.length = s.size := Array.length_toList
 rw [hl]
 constructor
 ·intro h
  have := congrArg List.length h
  rw [List.length_take, List.length_drop] at this
  simp only [List.length_nil] at this
  omega
 ·intro c hc
  obtain ⟨i, hi, rfl⟩ := List.mem_iff_getElem.1 hc
  rw [List.length_take, List.length_drop] at hi
  refine ⟨f + i, by omega, by omega, ?_⟩
  rw [List.getElem_take, List.getElem_drop]
  unfold bu
  rw [List.getD_eq_getElem?_getD, List.getElem?_eq_getElem (by omega)]
  rfl
theorem runF_kind : ∀ (f : Nat) (k : Int) (s : ByteArray) (j i : Nat), j ≤ i → i < runF f k s j → kindB k (bn s i) = true
 | 0, k, s, j, i, h, h2 => by unfold runF at h2; omega
 | f + 1, k, s, j, i, h, h2 => by
  unfold runF at h2
  split at h2
  ·rename_i hk
   rcases Nat.eq_or_lt_of_le h with rfl | h3
   ·exact hk
   ·exact runF_kind f k s (j + 1) i h3 h2
  ·omega
theorem runN_kind {k : Int} {s : ByteArray} {j i : Nat} (h : j ≤ i) (h2 : i < runN k s j) : kindB k (bn s i) = true := runF_kind _ k s j i h h2
theorem one_fine {s : ByteArray} {f : Nat} {l : List Tk} {x : Tk} (h : oneN s f l = .ok x) (hf : f < s.size) : x.fine := by
 unfold oneN at h
 cases hh : headN s f l.getLast? with
 | none => rw [hh] at h; cases h
 | some q =>
  obtain ⟨K, j⟩ := q
  rw [hh] at h
  dsimp only at h
  split at h
  ·cases h
  ·split at h
   ·rename_i h39
    have hK : K = 1 := by
     unfold headN at hh
     have e : (bn s f : Int) = 39 := by simpa using h39
     rw [e] at hh
     have e1 : smallB 39 = false := by decide
     have e2 : greatB 39 = false := by decide
     have e3 : digitB 39 = false := by decide
     have e4 : signB 39 = false := by decide
     rw [e1, e2, e3, e4] at hh
     simp at hh
     exact hh.1.symm
    cases hq : quoN s f (f + 1) [] with
    | bad p e => rw [hq] at h; cases h
    | ok t p =>
     rw [hq] at h
     injection h with h
     subst h
     subst hK
     exact fine_of (by decide) (by decide)
   ·rename_i h39
    injection h with h
    subst h
    unfold headN at hh
    split at hh
    ·injection hh with hh; injection hh with h1 h2; subst h1; exact fine_of (by decide) (by decide)
    ·split at hh
     ·injection hh with hh; injection hh with h1 h2; subst h1; exact fine_of (by decide) (by decide)
     ·split at hh
      ·injection hh with hh; injection hh with h1 h2; subst h1; exact fine_of (by decide) (by decide)
      ·split at hh
       ·rename_i hs
        injection hh with hh; injection hh with h1 h2; subst h1
        refine ⟨fun e => absurd (show (3 : Int) = 5 from e) (by decide), fun _ => ?_⟩
        have hk : kindB 2 (bn s f) = true := by simp [kindB, hs]
        have hgt := runN_gt hf hk
        obtain ⟨g1, g2⟩ := extract_run (s := s) (f := f) (runN_le (k := 2) (Nat.le_of_lt hf)) hgt
        subst h2
        refine ⟨g1, fun c hc => ?_⟩
        obtain ⟨i, hi1, hi2, rfl⟩ := g2 c hc
        have := runN_kind hi1 hi2
        rw [bn_bu] at this
        simp [kindB, digitB] at this
        omega
       ·split at hh
        ·injection hh with hh; injection hh with h1 h2; subst h1; exact fine_of (by decide) (by decide)
        ·split at hh
         ·injection hh with hh; injection hh with h1 h2; subst h1; exact fine_of (by decide) (by decide)
         ·split at hh
          ·rename_i hm
           injection hh with hh; injection hh with h1 h2
           subst h2
           have hx : s.extract f (f + 1) = ba [bu s f] := by
            apply ByteArray.ext
            apply Array.toList_inj.1
            obtain ⟨g1, g2⟩ := extract_run (s := s) (f := f) (j := f + 1) (by omega) (by omega)
            have hlen : (s.extract f (f + 1)).data.toList.length = 1 := by
             have : (s.extract f (f + 1)).data.toList.length = (s.extract f (f + 1)).size := Array.length_toList
             rw [this, ByteArray.size_extract]; omega
            obtain ⟨c, hc⟩ := List.length_eq_one_iff.1 hlen
            rw [hc]
            obtain ⟨i, hi1, hi2, rfl⟩ := g2 c (by rw [hc]; exact List.mem_singleton.2 rfl)
            obtain rfl : i = f := by omega
            rfl
           refine ⟨fun _ => ⟨bu s f, ?_, hx⟩, fun e => ?_⟩
           ·simp only [markB, Bool.or_eq_true, beq_iff_eq, bn_bu] at hm
            have hb : ∀ (c : UInt8) (n : Nat), (c.toNat : Int) = n → n < 256 → c = UInt8.ofNat n := fun c n h hn => by
             apply UInt8.toNat_inj.1
             rw [UInt8.toNat_ofNat']
             omega
            unfold marksL
            rcases hm with ((((((h | h) | h) | h) | h) | h) | h) | h <;> rw [hb _ _ h (by decide)] <;> decide
           ·subst h1
            simp only at e
            split at e <;> cases e
          ·cases hh
theorem lex_fine {s : ByteArray} {r : List Tk} (h : lexN s = .ok r) : ∀ x ∈ r, x.fine := by
 unfold lexN at h
 split at h
 ·cases h
 ·obtain ⟨_, hP, _⟩ := toks_ind (s := s) (fun _ l => ∀ x ∈ l, x.fine) (fun k l f x _ hl _ hf ho y hy => by
   rcases List.mem_append.1 hy with hy | hy
   ·exact hl y hy
   ·rw [List.mem_singleton.1 hy]
    exact one_fine ho hf) (s.size - 0) 0 [] r (Nat.le_refl _) (fun x hx => by cases hx) h
  exact hP
def aloneP (t : Tk) : Bool :=
 if t.k = 1 then (opIn t.t).isSome && !(opPre t.t).isSome
 else if t.k = 5 then !(t.t.toList == [40]) && !(t.t.toList == [91]) && !(t.t.toList == [123])
 else if t.k = 2 ∨ t.k = 3 ∨ t.k = 4 then false
 else true
theorem ba_one (c : UInt8) : (ba [c]).toList = [c] := by rw [ByteArray.toList_eq]; rfl
theorem alone_ends {tk : List Tk} {sz i : Nat} (hf : ∀ x ∈ tk, x.fine) (hk : ∀ x ∈ tk, 1 ≤ x.k ∧ x.k ≤ 6) : aloneP (nxT tk sz i) = endsP tk sz i := by
 unfold aloneP endsP
 by_cases hlt : i < tk.length
 ·have e : nxT tk sz i = tk[i] := by unfold nxT; rw [dif_pos hlt]
  rw [e]
  have h1 := hf _ (List.getElem_mem hlt)
  have h2 := hk _ (List.getElem_mem hlt)
  generalize tk[i] = x at h1 h2
  have h3 : x.k = 1 ∨ x.k = 2 ∨ x.k = 3 ∨ x.k = 4 ∨ x.k = 5 ∨ x.k = 6 := by omega
  dsimp only
  rcases h3 with h3 | h3 | h3 | h3 | h3 | h3
  ·simp [h3]
  ·simp [h3]
  ·simp [h3]
  ·simp [h3]
  ·obtain ⟨c, hc, hx⟩ := h1.1 h3
   rw [h3, hx, ba_one]
   simp only [marksL, List.mem_cons, List.not_mem_nil, or_false] at hc
   rcases hc with rfl | rfl | rfl | rfl | rfl | rfl | rfl | rfl <;> decide
  ·simp [h3]
 ·have e : nxT tk sz i = ⟨0, ⟨#[]⟩, sz, 0⟩ := by unfold nxT; rw [dif_neg hlt]
  rw [e]
  rfl
end Go.Proofs.YtibcpdmeigdgpaaGreatDoor
namespace Go.Proofs.YtibcpdmeigdgpaaGreatDoor
open Go.RowKit
def TokAt (c : Rdc) (j : Nat) (v : Value) : Prop := ∃ A cc, v = .slice A (c.tn - j) cc ∧ c.tn - j ≤ cc ∧ (j < c.tn → ∀ g, c.TA = some ⟨g, 0, none⟩ → A = some ⟨g, j * 4, none⟩)
structure PdW (w : World) (c : Rdc) (j : Nat) (lv nv : Value) (nn : Nat) (names : List ByteArray) : Prop where
 blk : w.heap[c.R]? = some (.cells #[.string c.s, lv, nv] 70 (0, 0))
 lok : TokAt c j lv
 own : w.ownsRow (c.B + c.N) 9 1 nv nn (names.map Value.string)
 up : j ≤ c.tn
 few : nn ≤ j
def Pd (w : World) (c : Rdc) (j : Nat) (names : List ByteArray) : Prop := TokW w c ∧ (∀ x ∈ c.tk, x.fine) ∧ ∃ lv nv nn, PdW w c j lv nv nn names
theorem Pd.lt {w : World} {c : Rdc} {j : Nat} {ns : List ByteArray} (h : Pd w c j ns) : c.R < w.heap.size := by
 obtain ⟨_, _, _, _, _, h⟩ := h
 exact heap_lt h.blk
theorem Pd.base {w : World} {c : Rdc} {j : Nat} {ns : List ByteArray} (h : Pd w c j ns) : c.B ≤ w.heap.size := Nat.le_trans h.1.BR (Nat.le_of_lt h.lt)
theorem Pd.up {w : World} {c : Rdc} {j : Nat} {ns : List ByteArray} (h : Pd w c j ns) : j ≤ c.tn := by
 obtain ⟨_, _, _, _, _, h⟩ := h
 exact h.up
theorem Pd.names {w : World} {c : Rdc} {j : Nat} {ns : List ByteArray} (h : Pd w c j ns) : ns.length ≤ j := by
 obtain ⟨_, _, _, _, nn, h⟩ := h
 have h1 := own_len h.own
 rw [List.length_map] at h1
 have := h.few
 omega
structure Frp (c : Rdc) (w w' : World) : Prop where
 low : Below c.B w w'
 keep : ∀ (b : Nat) (cs : Array Value) (t : TypeId) (m : Nat × Nat), w.heap[b]? = some (.cells cs t m) → b ≠ c.R → (t = 9 → b < c.B + c.N) → w'.heap[b]? = some (.cells cs t m)
theorem Frp.refl (c : Rdc) (w : World) : Frp c w w := ⟨Below.refl _ _, fun _ _ _ _ h _ _ => h⟩
theorem Frp.trans {c : Rdc} {w w1 w2 : World} (h : Frp c w w1) (h' : Frp c w1 w2) : Frp c w w2 := ⟨h.low.trans h'.low, fun b cs t m hb hR ht => h'.keep b cs t m (h.keep b cs t m hb hR ht) hR ht⟩
theorem Frp.of_below {c : Rdc} {w w' : World} (h : Below w.heap.size w w') (hB : c.B ≤ w.heap.size) : Frp c w w' := ⟨h.mono hB, fun b _ _ _ hb _ _ => (h.block b (heap_lt hb)).trans hb⟩
theorem Frp.size {c : Rdc} {w w' : World} (h : Frp c w w') : w.heap.size ≤ w'.heap.size := h.low.size
theorem Frp.setR {c : Rdc} {w : World} (hB : c.B ≤ c.R) (i : Nat) (u : Value) : Frp c w (w.setCell ⟨c.R, i, none⟩ u) :=
 ⟨(Below.refl _ _).setCell (p := ⟨c.R, i, none⟩) hB u, fun _ _ _ _ hb hne _ => (Below.heap_setCell _ _ _ _ hne).trans hb⟩
theorem Frp.boxp {c : Rdc} {w w' : World} {j : Nat} {ns : List ByteArray} (h : Frp c w w') (hr : Pd w c j ns) {b : Nat} {cs : Array Value} {t : TypeId} {m : Nat × Nat} (hb : w.heap[b]? = some (.cells cs t m))
 (h1 : t ≠ 9) (h2 : t ≠ 70) : w'.heap[b]? = some (.cells cs t m) := by
 refine h.keep b cs t m hb (fun e => ?_) (fun e => absurd e h1)
 subst e
 obtain ⟨_, _, _, _, _, hr⟩ := hr
 rw [hr.blk] at hb
 injection hb with hb
 injection hb with _ hb
 exact h2 hb.symm
theorem TP.frp {c : Rdc} {w w' : World} {j : Nat} {ns : List ByteArray} {S : Nat → Prop} {t : T} {v : Value} (ht : TP w S t v) (h : Frp c w w') (hr : Pd w c j ns) : TP w' S t v :=
 ht.keep fun _ _ _ hS hb => ⟨h.boxp hr hb (by decide) (by decide), hS⟩
theorem Pd.below {w w' : World} {c : Rdc} {j : Nat} {ns : List ByteArray} (h : Pd w c j ns) (hb : Below w.heap.size w w') : Pd w' c j ns := by
 obtain ⟨ht, hf, lv, nv, nn, hr⟩ := h
 exact ⟨ht.keep fun b cs h => hb.block b (heap_lt h), hf, lv, nv, nn, (hb.block _ (heap_lt hr.blk)).trans hr.blk, hr.lok, own_below hr.own hb, hr.up, hr.few⟩
theorem Pd.alloc {w : World} {c : Rdc} {j : Nat} {ns : List ByteArray} (h : Pd w c j ns) (o : Obj) : Pd (w.alloc o) c j ns := h.below ((Below.refl _ _).alloc (Nat.le_refl _) o)
theorem Pd.set_far {w : World} {c : Rdc} {j : Nat} {ns : List ByteArray} (h : Pd w c j ns) {b : Nat} {cs : Array Value} {t : TypeId} {m : Nat × Nat} (hb : w.heap[b]? = some (.cells cs t m)) (i : Nat) (u : Value)
 (h1 : t ≠ 9) (h2 : t ≠ 70) (h3 : t ≠ 83) : Pd (w.setCell ⟨b, i, none⟩ u) c j ns := by
 have key : ∀ (g : Nat) (cs' : Array Value) (t' : TypeId) (m' : Nat × Nat), w.heap[g]? = some (.cells cs' t' m') → t ≠ t' → (w.setCell ⟨b, i, none⟩ u).heap[g]? = w.heap[g]? := fun g cs' t' m' hg hne => Below.heap_setCell _ _ _ _ (by
  rintro rfl
  rw [show w.heap[_]? = _ from hb] at hg
  injection hg with hg
  injection hg with _ hg
  exact hne hg)
 obtain ⟨ht, hf, lv, nv, nn, hr⟩ := h
 refine ⟨ht.keep fun g cs hg => key g _ _ _ hg h3, hf, lv, nv, nn, (key _ _ _ _ hr.blk h2).trans hr.blk, hr.lok, own_keep hr.own fun g hg => ?_, hr.up, hr.few⟩
 rcases hr.own.2 with ⟨hv, _⟩ | ⟨g', cap, cur, hv, _, hh, _⟩
 ·rw [hv] at hg; simp [Value.ownBlock] at hg
 ·rw [hv] at hg
  simp [Value.ownBlock] at hg
  subst hg
  exact key _ _ _ _ hh h1
theorem PdW.cells {w : World} {c : Rdc} {j : Nat} {lv nv : Value} {nn : Nat} {names : List ByteArray} (h : PdW w c j lv nv nn names) :
 w.cell? ⟨c.R, 0, none⟩ = some (.string c.s) ∧ w.cell? ⟨c.R, 1, none⟩ = some lv ∧ w.cell? ⟨c.R, 2, none⟩ = some nv :=
 ⟨cell_of_row w _ 0 _ _ _ h.blk, cell_of_row w _ 1 _ _ _ h.blk, cell_of_row w _ 2 _ _ _ h.blk⟩
theorem PdW.thaw {w : World} {c : Rdc} {j : Nat} {lv nv : Value} {nn : Nat} {names : List ByteArray} (h : PdW w c j lv nv nn names) (i : Nat) : w.frozen? ⟨c.R, i, none⟩ = false := by
 simp [World.frozen?, h.blk]
theorem TokW.setRp {w : World} {c : Rdc} {j : Nat} {lv nv : Value} {nn : Nat} {names : List ByteArray} (ht : TokW w c) (h : PdW w c j lv nv nn names) (i : Nat) (u : Value) : TokW (w.setCell ⟨c.R, i, none⟩ u) c :=
 ht.keep fun _ cs hb => Below.heap_setCell _ _ _ _ (by
  rintro rfl
  rw [h.blk] at hb
  injection hb with hb
  injection hb with _ hb
  exact absurd hb (by decide))
theorem own_setRp {w : World} {c : Rdc} {j : Nat} {lv nv : Value} {nn : Nat} {names : List ByteArray} (h : PdW w c j lv nv nn names) {v : Value} {n : Nat} {xs : List Value} (ho : w.ownsRow (c.B + c.N) 9 1 v n xs) (i : Nat) (u : Value) :
 (w.setCell ⟨c.R, i, none⟩ u).ownsRow (c.B + c.N) 9 1 v n xs :=
 own_keep ho fun g hg => Below.heap_setCell _ _ _ _ (by
  rintro rfl
  rcases ho.2 with ⟨hv, _⟩ | ⟨g', cap, cur, hv, _, hh, _⟩
  ·rw [hv] at hg; simp [Value.ownBlock] at hg
  ·rw [hv] at hg
   simp [Value.ownBlock] at hg
   subst hg
   rw [h.blk] at hh
   injection hh with hh
   injection hh with _ hh
   exact absurd hh (by decide))
theorem Pd.next {w : World} {c : Rdc} {j : Nat} {lv nv : Value} {nn : Nat} {ns : List ByteArray} (ht : TokW w c) (hf : ∀ x ∈ c.tk, x.fine) (hr : PdW w c j lv nv nn ns) (hlt : j < c.tn) {lv' : Value} (hl : TokAt c (j + 1) lv') : Pd (w.setCell ⟨c.R, 1, none⟩ lv') c (j + 1) ns :=
 ⟨ht.setRp hr _ _, hf, lv', nv, nn, by simpa using blk_set hr.blk 1 lv', hl, own_setRp hr hr.own _ _, hlt, Nat.le_succ_of_le hr.few⟩
theorem nx_ltp {w : World} {c : Rdc} {j : Nat} {ns : List ByteArray} (h : Pd w c j ns) (hk : (nx c j).k ≠ 0) : j < c.tn := by
 have hl := h.1.len
 rcases Nat.lt_or_ge j c.tn with h1 | h1
 ·exact h1
 ·simp [nx, nxT, show ¬ j < c.tk.length by omega] at hk
theorem nx_sizep {w : World} {c : Rdc} {j : Nat} {ns : List ByteArray} (h : Pd w c j ns) : nameOk (nx c j).t := by
 unfold nx nxT
 split
 ·rename_i hlt
  exact ⟨Nat.le_trans (h.1.ok _ (List.getElem_mem hlt)).2.2.1 h.1.long, h.1.nm _ (List.getElem_mem hlt)⟩
 ·exact (show nameOk ⟨#[]⟩ by decide)
def wrongP (p e : Int) : PanicEntry := { v := .iface 67 (.agg #[.int .i64 p, .int .i64 e]), recovered := false }
def PQ {α : Type} (c : Rdc) (w : World) (i : Nat) (res : PR α) (rel : α → Nat → Value → World → Prop) (e : Ending) (w' : World) : Prop :=
 Frp c w w' ∧ match res with
 | .ok (x, j, ns) => ∃ v, e = .returned v ∧ Pd w' c j ns ∧ i ≤ j ∧ rel x j v w'
 | .error (p, k) => e = .panicked [wrongP p k]
theorem PQ.ok {α : Type} {c : Rdc} {w : World} {i : Nat} {res : PR α} {rel : α → Nat → Value → World → Prop} {e : Ending} {w' : World} (h : PQ c w i res rel e w') {x : α} {j : Nat} {ns : List ByteArray} (hr : res = .ok (x, j, ns)) :
 Frp c w w' ∧ ∃ v, e = .returned v ∧ Pd w' c j ns ∧ i ≤ j ∧ rel x j v w' := by subst hr; exact h
theorem PQ.err {α : Type} {c : Rdc} {w : World} {i : Nat} {res : PR α} {rel : α → Nat → Value → World → Prop} {e : Ending} {w' : World} (h : PQ c w i res rel e w') {p k : Int} (hr : res = .error (p, k)) :
 Frp c w w' ∧ e = .panicked [wrongP p k] := by subst hr; exact h
end Go.Proofs.YtibcpdmeigdgpaaGreatDoor
namespace Go.Proofs.YtibcpdmeigdgpaaGreatDoor
open Go.RowKit
set_option maxRecDepth 100000 in
set_option maxHeartbeats 1000000 in
theorem ppeek_any {c : Rdc} {i : Nat} {ns : List ByteArray} (w : World) (h : Pd w c i ns) : Calls Tryz.prog 37 #[.pointer (some ⟨c.R, 0, none⟩)] w fun e w' => e = .returned (.agg #[.int .i64 (nx c i).k, .string (nx c i).t, .int .i64 ((nx c i).a : Int), .int .i64 ((nx c i).b : Int)]) ∧ Below w.heap.size w w' := by
 have hlt := h.lt
 obtain ⟨ht, hfi, lv, nv, nn, hr⟩ := h
 obtain ⟨A, cc, rfl, hcc, hA⟩ := hr.lok
 obtain ⟨r0, r1, r2⟩ := hr.cells
 have hup := hr.up
 have HT := Lib.hid ht
 clear hr ht
 by_cases hi : i < c.tn
 ·have hi' : ¬ (((c.tn - i : Nat) : Int) = 0) := by omega
  have hi2 : (0 : Int) < ((c.tn - i : Nat) : Int) := by omega
  obtain ⟨g, hTA, t0, t1, t2, t3⟩ := tok_cells HT.out hi
  obtain rfl := hA hi g hTA
  have hg := World.block_lt_of_cell? w _ t0
  dsimp only at hg
  go_enter Tryz.func37, Tryz.ntmps37
  go_wp2_with fail
  refine bodyPost_ret (v := (.agg #[.int .i64 (nx c i).k, .string (nx c i).t, .int .i64 ((nx c i).a : Int), .int .i64 ((nx c i).b : Int)])) (by simp [results, go_sem]) rfl ?_
  exact ⟨rfl, (Below.refl _ _).alloc (Nat.le_refl _) _⟩
 ·have hi' : (c.tn - i : Nat) = 0 := by omega
  have hx : nx c i = ⟨0, ⟨#[]⟩, c.s.size, 0⟩ := by
   have hl := HT.out.len
   simp [nx, nxT, show ¬ i < c.tk.length by omega]
  go_enter Tryz.func37, Tryz.ntmps37
  go_wp2_with fail
  refine bodyPost_ret (v := (.agg #[.int .i64 (nx c i).k, .string (nx c i).t, .int .i64 ((nx c i).a : Int), .int .i64 ((nx c i).b : Int)])) (by simp [results, go_sem, hx]) rfl ?_
  exact ⟨rfl, (Below.refl _ _).alloc (Nat.le_refl _) _⟩
theorem Pd.set_at {w : World} {c : Rdc} {j : Nat} {ns : List ByteArray} (h : Pd w c j ns) {b : Nat} {cs : Array Value} {t : TypeId} {m : Nat × Nat} (hb : w.heap[b]? = some (.cells cs t m)) (i : Nat) (u : Value)
 (h1 : t ≠ 9) (h2 : b ≠ c.R) (h3 : ∀ g, c.TA = some ⟨g, 0, none⟩ → b ≠ g) : Pd (w.setCell ⟨b, i, none⟩ u) c j ns := by
 obtain ⟨ht, hf, lv, nv, nn, hr⟩ := h
 refine ⟨⟨ht.len, ht.few, ht.long, ht.ok, ht.cap, ht.nil, ht.BR, ht.nm, fun h0 => ?_⟩, hf, lv, nv, nn, (Below.heap_setCell _ _ _ _ fun e => h2 e.symm).trans hr.blk, hr.lok, own_keep hr.own fun g hg => ?_, hr.up, hr.few⟩
 ·obtain ⟨g, cur, hA, hg, hc⟩ := ht.blk h0
  exact ⟨g, cur, hA, (Below.heap_setCell _ _ _ _ fun e => h3 g hA e.symm).trans hg, hc⟩
 ·refine Below.heap_setCell _ _ _ _ ?_
  rintro rfl
  rcases hr.own.2 with ⟨hv, _⟩ | ⟨g', cap, cur, hv, _, hh, _⟩
  ·rw [hv] at hg; simp [Value.ownBlock] at hg
  ·rw [hv] at hg
   simp [Value.ownBlock] at hg
   subst hg
   rw [show w.heap[_]? = _ from hb] at hh
   injection hh with hh
   injection hh with _ hh
   exact h1 hh
theorem Pd.tok_lt {w : World} {c : Rdc} {j : Nat} {ns : List ByteArray} (h : Pd w c j ns) (h0 : 0 < c.tn) {g : Nat} (hg : c.TA = some ⟨g, 0, none⟩) : g < w.heap.size := by
 obtain ⟨g', cur, hA, hb, _⟩ := h.1.blk h0
 rw [hg] at hA
 injection hA with hA
 injection hA with hA
 rw [hA]
 exact heap_lt hb
theorem Frp.newset {c : Rdc} {w W : World} (h : Frp c w W) {b : Nat} (hb : w.heap.size ≤ b) (hB : c.B ≤ b) (i : Nat) (u : Value) : Frp c w (W.setCell ⟨b, i, none⟩ u) :=
 ⟨h.low.setCell (p := ⟨b, i, none⟩) hB u, fun k cs t m hk hR ht => (Below.heap_setCell _ _ _ _ (by have := heap_lt hk; show k ≠ b; omega)).trans (h.keep k cs t m hk hR ht)⟩
theorem Frp.newalloc {c : Rdc} {w W : World} (h : Frp c w W) (hB : c.B ≤ w.heap.size) (o : Obj) : Frp c w (W.alloc o) := h.trans (Frp.of_below ((Below.refl _ _).alloc (Nat.le_refl _) o) (Nat.le_trans hB h.size))
theorem Pd.put4 {w : World} {c : Rdc} {j : Nat} {ns : List ByteArray} (h : Pd w c j ns) {b : Nat} {u0 u1 u2 u3 : Value} {t : TypeId} {m : Nat × Nat} (hb : w.heap[b]? = some (.cells #[u0, u1, u2, u3] t m)) (v0 v1 v2 v3 : Value)
 (h1 : t ≠ 9) (h2 : b ≠ c.R) (h3 : ∀ g, c.TA = some ⟨g, 0, none⟩ → b ≠ g) : Pd ((((w.setCell ⟨b, 0, none⟩ v0).setCell ⟨b, 1, none⟩ v1).setCell ⟨b, 2, none⟩ v2).setCell ⟨b, 3, none⟩ v3) c j ns := by
 have k0 := h.set_at hb 0 v0 h1 h2 h3
 have b0 := blk_set hb 0 v0
 have k1 := k0.set_at b0 1 v1 h1 h2 h3
 have b1 := blk_set b0 1 v1
 have k2 := k1.set_at b1 2 v2 h1 h2 h3
 have b2 := blk_set b1 2 v2
 exact k2.set_at b2 3 v3 h1 h2 h3
theorem Frp.newput4 {c : Rdc} {w W : World} (h : Frp c w W) {b : Nat} (hb : w.heap.size ≤ b) (hB : c.B ≤ b) (v0 v1 v2 v3 : Value) : Frp c w ((((W.setCell ⟨b, 0, none⟩ v0).setCell ⟨b, 1, none⟩ v1).setCell ⟨b, 2, none⟩ v2).setCell ⟨b, 3, none⟩ v3) :=
 (((h.newset hb hB 0 v0).newset hb hB 1 v1).newset hb hB 2 v2).newset hb hB 3 v3
theorem TokAt.next {c : Rdc} {i : Nat} {A : Option Addr} {cc : Nat} (h : TokAt c i (.slice A (c.tn - i) cc)) (hi : i < c.tn) : TokAt c (i + 1) (.slice (if cc = 1 then A else A.map fun a => a.add 4) (c.tn - i - 1) (cc - 1)) := by
 obtain ⟨A', cc', e, hcc, hA⟩ := h
 injection e with e1 e2 e3
 subst e1 e3
 refine ⟨_, _, by rw [show c.tn - (i + 1) = c.tn - i - 1 by omega], by omega, fun hlt g hg => ?_⟩
 rw [if_neg (by omega), hA hi g hg]
 simp [Addr.add, Nat.add_mul]
set_option maxRecDepth 100000 in
set_option maxHeartbeats 1000000 in
theorem ptake_any {c : Rdc} {i : Nat} {ns : List ByteArray} (w : World) (h : Pd w c i ns) (hk : (nx c i).k ≠ 0) : Calls Tryz.prog 39 #[.pointer (some ⟨c.R, 0, none⟩)] w fun e w' => e = .returned (.agg #[.int .i64 (nx c i).k, .string (nx c i).t, .int .i64 ((nx c i).a : Int), .int .i64 ((nx c i).b : Int)]) ∧ Pd w' c (i + 1) ns ∧ Frp c w w' := by
 have hi := nx_ltp h hk
 have H := Lib.hid h
 have hB := h.base
 have hBR := h.1.BR
 clear h hk
 go_enter Tryz.func39, Tryz.ntmps39
 have H1 := Lib.hid (H.out.alloc (Obj.cells #[.int .i64 0, .string ⟨#[]⟩, .int .i64 0, .int .i64 0] 83))
 have F1 := Lib.hid (Frp.of_below ((Below.refl w.heap.size w).alloc (Nat.le_refl _) (Obj.cells #[.int .i64 0, .string ⟨#[]⟩, .int .i64 0, .int .i64 0] 83)) hB)
 have X1 := Lib.hid (heap_alloc_new w (Obj.cells #[.int .i64 0, .string ⟨#[]⟩, .int .i64 0, .int .i64 0] 83))
 go_wp2_with fail
 refine (ppeek_any _ H1.out).mono ?_
 rintro e w2 ⟨rfl, h2⟩
 have H2 := Lib.hid (H1.out.below h2)
 have F2 := Lib.hid (F1.out.trans (Frp.of_below h2 H1.out.base))
 have H3 := Lib.hid (H2.out.alloc (Obj.cells #[.int .i64 (nx c i).k, .string (nx c i).t, .int .i64 ((nx c i).a : Int), .int .i64 ((nx c i).b : Int)] 83))
 have F3 := Lib.hid (F2.out.trans (Frp.of_below ((Below.refl w2.heap.size w2).alloc (Nat.le_refl _) (Obj.cells #[.int .i64 (nx c i).k, .string (nx c i).t, .int .i64 ((nx c i).a : Int), .int .i64 ((nx c i).b : Int)] 83)) H2.out.base))
 have X2 := Lib.hid ((h2.block _ (heap_lt X1.out)).trans X1.out)
 obtain ⟨ht, hfi, lv, nv, nn, hr⟩ := H2.out
 obtain ⟨A, cc, rfl, hcc, hA⟩ := hr.lok
 obtain ⟨r0, r1, r2⟩ := hr.cells
 have rf := hr.thaw
 have hlt := H2.out.lt
 have hne : w.heap.size ≠ c.R := by have := H.out.lt; omega
 have hi2 : (0 : Int) < ((c.tn - i : Nat) : Int) := by omega
 have hi3 : 1 ≤ c.tn - i := by omega
 obtain ⟨g, hTA, _⟩ := tok_cells ht hi
 obtain rfl := hA hi g hTA
 have HN := Lib.hid (fun (W : World) (hb : Below w2.heap.size w2 W) => Pd.next (w := W) (ht.keep fun b cs h => hb.block b (heap_lt h)) hfi (show PdW W c i (.slice (some ⟨g, i * 4, none⟩) (c.tn - i) cc) nv nn ns from ⟨(hb.block _ (heap_lt hr.blk)).trans hr.blk, hr.lok, own_below hr.own hb, hr.up, hr.few⟩) hi (TokAt.next hr.lok hi))
 obtain ⟨x0, x1, x2, x3⟩ := box4t X2.out
 have hx2 := heap_lt X2.out
 have hne' : c.R ≠ w.heap.size := fun e => hne e.symm
 have xf : ∀ j, w2.frozen? ⟨w.heap.size, j, none⟩ = false := fun j => by simp [World.frozen?, X2.out]
 have HG : ∀ g, c.TA = some ⟨g, 0, none⟩ → w.heap.size ≠ g := fun g hg => by have := H.out.tok_lt (by omega) hg; omega
 clear h2 hr ht
 by_cases hc1 : cc = 1
 ·have hc1' : (cc == 1) = true := by simpa using hc1
  subst hc1
  have Q1 := Lib.hid (show Pd (w2.setCell ⟨c.R, 1, none⟩ (.slice (some ⟨g, i * 4, none⟩) 0 0)) c (i + 1) ns from by
   have h := HN.out w2 (Below.refl _ _)
   rw [if_pos rfl, show c.tn - i - 1 = 0 by omega] at h
   exact h)
  have XB := Lib.hid ((Below.heap_setCell w2 ⟨c.R, 1, none⟩ (.slice (some ⟨g, i * 4, none⟩) 0 0) w.heap.size hne).trans X2.out)
  have Q2 := Lib.hid (Q1.out.put4 XB.out (.int .i64 (nx c i).k) (.string (nx c i).t) (.int .i64 ((nx c i).a : Int)) (.int .i64 ((nx c i).b : Int)) (by decide) hne HG)
  have G2 := Lib.hid ((F2.out.trans (Frp.setR hBR 1 (.slice (some ⟨g, i * 4, none⟩) 0 0))).newput4 (Nat.le_refl _) hB (.int .i64 (nx c i).k) (.string (nx c i).t) (.int .i64 ((nx c i).a : Int)) (.int .i64 ((nx c i).b : Int)))
  have P := box4t (box_put4 XB.out (.int .i64 (nx c i).k) (.string (nx c i).t) (.int .i64 ((nx c i).a : Int)) (.int .i64 ((nx c i).b : Int)) rfl).1
  go_wp2_with fail
  refine bodyPost_ret (v := (.agg #[.int .i64 (nx c i).k, .string (nx c i).t, .int .i64 ((nx c i).a : Int), .int .i64 ((nx c i).b : Int)])) (by simp [results, go_sem, P, hx2]) rfl ?_
  exact ⟨rfl, Q2.out.alloc _, G2.out.newalloc hB _⟩
 ·have hc1' : (cc == 1) = false := by simpa using hc1
  have Q1 := Lib.hid (show Pd (w2.setCell ⟨c.R, 1, none⟩ (.slice (some ⟨g, i * 4 + 4, none⟩) (c.tn - i - 1) (cc - 1))) c (i + 1) ns from by
   have h := HN.out w2 (Below.refl _ _)
   rw [if_neg hc1] at h
   exact h)
  have XB := Lib.hid ((Below.heap_setCell w2 ⟨c.R, 1, none⟩ (.slice (some ⟨g, i * 4 + 4, none⟩) (c.tn - i - 1) (cc - 1)) w.heap.size hne).trans X2.out)
  have Q2 := Lib.hid (Q1.out.put4 XB.out (.int .i64 (nx c i).k) (.string (nx c i).t) (.int .i64 ((nx c i).a : Int)) (.int .i64 ((nx c i).b : Int)) (by decide) hne HG)
  have G2 := Lib.hid ((F2.out.trans (Frp.setR hBR 1 (.slice (some ⟨g, i * 4 + 4, none⟩) (c.tn - i - 1) (cc - 1)))).newput4 (Nat.le_refl _) hB (.int .i64 (nx c i).k) (.string (nx c i).t) (.int .i64 ((nx c i).a : Int)) (.int .i64 ((nx c i).b : Int)))
  have P := box4t (box_put4 XB.out (.int .i64 (nx c i).k) (.string (nx c i).t) (.int .i64 ((nx c i).a : Int)) (.int .i64 ((nx c i).b : Int)) rfl).1
  go_wp2_with fail
  refine bodyPost_ret (v := (.agg #[.int .i64 (nx c i).k, .string (nx c i).t, .int .i64 ((nx c i).a : Int), .int .i64 ((nx c i).b : Int)])) (by simp [results, go_sem, P, hx2]) rfl ?_
  exact ⟨rfl, Q2.out.alloc _, G2.out.newalloc hB _⟩
set_option maxRecDepth 100000 in
set_option maxHeartbeats 1000000 in
theorem pfail_any {c : Rdc} {i : Nat} {ns : List ByteArray} (w : World) (h : Pd w c i ns) : Calls Tryz.prog 38 #[.pointer (some ⟨c.R, 0, none⟩)] w fun e w' => e = .panicked [wrongP ((nx c i).a : Int) 50] ∧ Frp c w w' := by
 have fl := fld_tok2
 have hB := h.base
 go_enter Tryz.func38, Tryz.ntmps38
 go_wp2_with fail
 refine (ppeek_any _ h).mono ?_
 rintro e w2 ⟨rfl, h2⟩
 go_wp2_with fail
 exact ⟨rfl, rfl, Frp.of_below h2 hB⟩
end Go.Proofs.YtibcpdmeigdgpaaGreatDoor
namespace Go.Proofs.YtibcpdmeigdgpaaGreatDoor
open Go.RowKit
set_option maxRecDepth 100000 in
set_option maxHeartbeats 1000000 in
theorem pmark_any {c : Rdc} {i : Nat} {ns : List ByteArray} (tx : ByteArray) (w : World) (h : Pd w c i ns) : Calls Tryz.prog 86 #[.pointer (some ⟨c.R, 0, none⟩), .string tx] w fun e w' =>
 ∃ b, e = .returned (.bool b) ∧ isM c.tk c.s.size i tx = b ∧ Pd w' c (if b then i + 1 else i) ns ∧ Frp c w w' ∧ (b = true → i < c.tn) := by
 have hB := h.base
 have H := Lib.hid h
 clear h
 go_enter Tryz.func86, Tryz.ntmps86
 go_wp2_with fail
 refine (ppeek_any _ H.out).mono ?_
 rintro e w1 ⟨rfl, h1⟩
 have H1 := Lib.hid ((H.out.below h1).alloc (Obj.cells #[.int .i64 (nx c i).k, .string (nx c i).t, .int .i64 ((nx c i).a : Int), .int .i64 ((nx c i).b : Int)] 83))
 have F1 := Lib.hid ((Frp.of_below h1 hB).newalloc hB (Obj.cells #[.int .i64 (nx c i).k, .string (nx c i).t, .int .i64 ((nx c i).a : Int), .int .i64 ((nx c i).b : Int)] 83))
 clear h1
 by_cases h5 : (nx c i).k = 5
 ·have h5' : ((nx c i).k != 5) = false := by simpa using h5
  cases htx : ((nx c i).t.toList == tx.toList) with
  | true =>
   have htx' : ((nx c i).t.toList != tx.toList) = false := by rw [bne, htx]; rfl
   have HM := Lib.hid (show isM c.tk c.s.size i tx = true by
    unfold isM
    rw [show nxT c.tk c.s.size i = nx c i from rfl, h5, htx]; rfl)
   have CT := Lib.hid (ptake_any _ H1.out (by rw [h5]; decide))
   have HL := Lib.hid (nx_ltp H1.out (by rw [h5]; decide))
   clear h5
   go_wp2_with fail
   refine CT.out.mono ?_
   rintro e w2 ⟨rfl, h2, f2⟩
   go_wp2_with fail
   go_ret
   exact ⟨true, rfl, HM.out, h2, F1.out.trans f2, fun _ => HL.out⟩
  | false =>
   have htx' : ((nx c i).t.toList != tx.toList) = true := by rw [bne, htx]; rfl
   have HM := Lib.hid (show isM c.tk c.s.size i tx = false by
    unfold isM
    rw [show nxT c.tk c.s.size i = nx c i from rfl, htx, Bool.and_false])
   clear h5
   go_wp2_with fail
   go_ret
   exact ⟨false, rfl, HM.out, H1.out, F1.out, fun h => by cases h⟩
 ·have h5' : ((nx c i).k != 5) = true := by simpa using h5
  have h5'' : ((nx c i).k == 5) = false := by simpa using h5
  have HM := Lib.hid (show isM c.tk c.s.size i tx = false by
   unfold isM
   rw [show nxT c.tk c.s.size i = nx c i from rfl, h5'']; rfl)
  go_wp2_with fail
  go_ret
  exact ⟨false, rfl, HM.out, H1.out, F1.out, fun h => by cases h⟩
set_option maxRecDepth 100000 in
set_option maxHeartbeats 1000000 in
theorem pmust_any {c : Rdc} {i : Nat} {ns : List ByteArray} (tx : ByteArray) (w : World) (h : Pd w c i ns) : Calls Tryz.prog 104 #[.pointer (some ⟨c.R, 0, none⟩), .string tx] w fun e w' =>
 PQ c w i (mustN c.tk c.s.size tx () i ns) (fun _ j v _ => v = .tuple #[] ∧ j = i + 1) e w' := by
 have hB := h.base
 have H := Lib.hid h
 clear h
 go_enter Tryz.func104, Tryz.ntmps104
 go_wp2_with fail
 refine (pmark_any _ _ H.out).mono ?_
 rintro e w1 ⟨b, rfl, hm, h1, f1, hlt⟩
 have HM := Lib.hid hm
 clear hm
 cases b with
 | true =>
  have H1 := Lib.hid h1
  clear h1 hlt
  go_wp2_with fail
  refine bodyPost_ret (results_none rfl _ _ _) rfl ?_
  have e1 : mustN c.tk c.s.size tx () i ns = .ok ((), i + 1, ns) := by unfold mustN; rw [if_pos HM.out]
  rw [e1]
  exact ⟨f1, _, rfl, H1.out, Nat.le_succ _, rfl, rfl⟩
 | false =>
  have H1 := Lib.hid h1
  clear h1 hlt
  go_wp2_with fail
  refine (pfail_any _ H1.out).mono ?_
  rintro e w2 ⟨rfl, f2⟩
  have e1 : mustN c.tk c.s.size tx () i ns = .error (errA c.tk c.s.size i 50) := by unfold mustN; rw [HM.out]; rfl
  go_wp2_with fail
  refine ⟨rfl, ?_⟩
  rw [e1]
  exact ⟨f1.trans f2, rfl⟩
theorem pcell_any (nm : ByteArray) (A : Option Addr) (m cc : Nat) (w : World) : Calls Tryz.prog 65 #[.string nm, .slice A m cc] w fun e w' => e = .returned (.agg #[.int .i64 4, .int .i64 0, .string nm, .slice A m cc]) ∧ Below w.heap.size w w' := by
 go_enter Tryz.func65, Tryz.ntmps65
 go_wp2_with fail
 refine bodyPost_ret (v := .agg #[.int .i64 4, .int .i64 0, .string nm, .slice A m cc]) (by simp [results, go_sem]) rfl ?_
 exact ⟨rfl, (Below.refl _ _).alloc (Nat.le_refl _) _⟩
theorem pconst_any (nm : ByteArray) (w : World) : Calls Tryz.prog 88 #[.string nm] w fun e w' => e = .returned (.agg #[.int .i64 3, .int .i64 0, .string nm, .slice none 0 0]) ∧ Below w.heap.size w w' := by
 go_enter Tryz.func88, Tryz.ntmps88
 go_wp2_with fail
 refine bodyPost_ret (v := .agg #[.int .i64 3, .int .i64 0, .string nm, .slice none 0 0]) (by simp [results, go_sem]) rfl ?_
 exact ⟨rfl, (Below.refl _ _).alloc (Nat.le_refl _) _⟩
end Go.Proofs.YtibcpdmeigdgpaaGreatDoor
