/- The reference's parser: its reader in memory; what a call leaves alone; terms in blocks of terms. The reference's parser: next, mark, fail, wrong, must. -/
import Derived.Test.YtibcpdmeigdgpaaGreatDoorKGa
import Derived.Test.YtibcpdmeigdgpaaGreatDoorKGb
import Derived.Deep.DeepMust
namespace Go.Proofs.YtibcpdmeigdgpaaGreatDoor
open Go.RowKit
def TP (w : World) (S : Nat → Prop) : T → Value → Prop
 | .nil, _ => False
 | .mk k n s m a, v => ∃ A c, v = .agg #[.int .i64 k, .int .i64 n, .string s, .slice A m c] ∧ m ≤ c ∧ (A = none → c = 0) ∧
  (0 < m → ∃ b cs f, A = some ⟨b, 0, none⟩ ∧ S b ∧ w.heap[b]? = some (.cells cs 39 f) ∧ ∀ i, i < m → ∃ v0 v1 v2 v3, cs[4 * i]? = some v0 ∧ cs[4 * i + 1]? = some v1 ∧
    cs[4 * i + 2]? = some v2 ∧ cs[4 * i + 3]? = some v3 ∧ TP w S (a i) (.agg #[v0, v1, v2, v3]))
theorem TP.keep {w w' : World} {S S' : Nat → Prop} (h : ∀ b cs f, S b → w.heap[b]? = some (.cells cs 39 f) → w'.heap[b]? = some (.cells cs 39 f) ∧ S' b) :
 ∀ {t : T} {v : Value}, TP w S t v → TP w' S' t v := by
 intro t
 induction t with
 | nil => exact fun h => h.elim
 | mk k n s m a ih =>
  rintro v ⟨A, c, rfl, hmc, hA, hx⟩
  refine ⟨A, c, rfl, hmc, hA, fun hm => ?_⟩
  obtain ⟨b, cs, f, rfl, hS, hb, hc⟩ := hx hm
  refine ⟨b, cs, f, rfl, (h b cs f hS hb).2, (h b cs f hS hb).1, fun i hi => ?_⟩
  obtain ⟨v0, v1, v2, v3, h0, h1, h2, h3, ht⟩ := hc i hi
  exact ⟨v0, v1, v2, v3, h0, h1, h2, h3, ih i ht⟩
theorem TP.more {w : World} {S S' : Nat → Prop} (h : ∀ b, S b → S' b) {t : T} {v : Value} (ht : TP w S t v) : TP w S' t v := ht.keep fun b _ _ hS hb => ⟨hb, h b hS⟩
theorem TP.tin {w : World} {S : Nat → Prop} : ∀ {t : T} {v : Value}, TP w S t v → TIn w w.heap.size t v := by
 intro t
 induction t with
 | nil => exact fun h => h.elim
 | mk k n s m a ih =>
  rintro v ⟨A, c, rfl, hmc, hA, hx⟩
  refine ⟨A, c, rfl, hmc, hA, fun hm => ?_⟩
  obtain ⟨b, cs, f, rfl, _, hb, hc⟩ := hx hm
  refine ⟨b, 0, rfl, heap_lt hb, fun i hi => ?_⟩
  obtain ⟨v0, v1, v2, v3, h0, h1, h2, h3, ht⟩ := hc i hi
  have hr := fun (j : Nat) => cell_of_row w b j _ _ _ hb
  simp only [Nat.zero_add]
  exact ⟨v0, v1, v2, v3, (hr _).trans h0, (hr _).trans h1, (hr _).trans h2, (hr _).trans h3, ih i ht⟩
theorem TP.agg {w : World} {S : Nat → Prop} {t : T} {v : Value} (h : TP w S t v) : ∃ k n s A m c, v = .agg #[.int .i64 k, .int .i64 n, .string s, .slice A m c] := by
 cases t with
 | nil => exact h.elim
 | mk k n s m a => obtain ⟨A, c, rfl, _⟩ := h; exact ⟨_, _, _, _, _, _, rfl⟩
theorem TP.leaf (w : World) (S : Nat → Prop) (k n : Int) (s : ByteArray) : TP w S (.mk k n s 0 fun _ => .nil) (.agg #[.int .i64 k, .int .i64 n, .string s, .slice none 0 0]) :=
 ⟨none, 0, rfl, Nat.le_refl _, fun _ => rfl, fun h => absurd h (by decide)⟩
structure Rdc where
 R : Nat
 B : Nat
 s : ByteArray
 TA : Option Addr
 tn : Nat
 tc : Nat
 tk : List Tk
 N : Nat
structure TokW (w : World) (c : Rdc) : Prop where
 len : c.tk.length = c.tn
 few : c.tn ≤ 1000
 long : c.s.size ≤ 4096
 ok : ∀ x ∈ c.tk, x.ok c.s.size
 cap : c.tn ≤ c.tc
 nil : c.TA = none → c.tc = 0
 BR : c.B ≤ c.R
 nm : ∀ x ∈ c.tk, nameB x.t
 blk : 0 < c.tn → ∃ g cur, c.TA = some ⟨g, 0, none⟩ ∧ w.heap[g]? = some (.cells cur 83 (0, 0)) ∧ ∀ j, j < c.tn * 4 → cur[j]? = (tkCells c.tk)[j]?
structure RdW (w : World) (c : Rdc) (at_ : Nat) (nv : Value) (nn : Nat) (names : List ByteArray) (place er : Int) : Prop where
 blk : w.heap[c.R]? = some (.cells #[.string c.s, .slice c.TA c.tn c.tc, .int .i64 (at_ : Int), nv, .int .i64 place, .int .i64 er] 80 (0, 0))
 own : w.ownsRow c.B 9 1 nv nn (names.map Value.string)
 up : at_ ≤ c.tn
 few : nn ≤ at_
def Rd (w : World) (c : Rdc) (at_ : Nat) (names : List ByteArray) (place er : Int) : Prop := TokW w c ∧ ∃ nv nn, RdW w c at_ nv nn names place er
theorem Rd.mk {w : World} {c : Rdc} {at_ : Nat} {nv : Value} {nn : Nat} {names : List ByteArray} {place er : Int} (h : TokW w c) (h' : RdW w c at_ nv nn names place er) : Rd w c at_ names place er := ⟨h, _, _, h'⟩
structure Fr (c : Rdc) (w w' : World) : Prop where
 low : Below c.B w w'
 keep : ∀ (b : Nat) (cs : Array Value) (t : TypeId) (m : Nat × Nat), w.heap[b]? = some (.cells cs t m) → b ≠ c.R → t ≠ 9 → w'.heap[b]? = some (.cells cs t m)
theorem Fr.refl (c : Rdc) (w : World) : Fr c w w := ⟨Below.refl _ _, fun _ _ _ _ h _ _ => h⟩
theorem Fr.trans {c : Rdc} {w w1 w2 : World} (h : Fr c w w1) (h' : Fr c w1 w2) : Fr c w w2 := ⟨h.low.trans h'.low, fun b cs t m hb hR ht => h'.keep b cs t m (h.keep b cs t m hb hR ht) hR ht⟩
theorem Rd.lt {w : World} {c : Rdc} {at_ : Nat} {ns : List ByteArray} {pl er : Int} (h : Rd w c at_ ns pl er) : c.R < w.heap.size := by
 obtain ⟨_, _, _, h⟩ := h
 exact heap_lt h.blk
theorem Rd.base {w : World} {c : Rdc} {at_ : Nat} {ns : List ByteArray} {pl er : Int} (h : Rd w c at_ ns pl er) : c.B ≤ w.heap.size := Nat.le_trans h.1.BR (Nat.le_of_lt h.lt)
theorem Fr.of_below {c : Rdc} {w w' : World} (h : Below w.heap.size w w') (hB : c.B ≤ w.heap.size) : Fr c w w' := ⟨h.mono hB, fun b _ _ _ hb _ _ => (h.block b (heap_lt hb)).trans hb⟩
theorem Fr.size {c : Rdc} {w w' : World} (h : Fr c w w') : w.heap.size ≤ w'.heap.size := h.low.size
theorem Fr.box {c : Rdc} {w w' : World} {at_ : Nat} {ns : List ByteArray} {pl er : Int} (h : Fr c w w') (hr : Rd w c at_ ns pl er) {b : Nat} {cs : Array Value} {t : TypeId} {m : Nat × Nat} (hb : w.heap[b]? = some (.cells cs t m))
 (h1 : t ≠ 9) (h2 : t ≠ 80) : w'.heap[b]? = some (.cells cs t m) := by
 refine h.keep b cs t m hb (fun e => ?_) h1
 subst e
 obtain ⟨_, _, _, hr⟩ := hr
 rw [hr.blk] at hb
 injection hb with hb
 injection hb with _ hb
 exact h2 hb.symm
theorem TP.fr {c : Rdc} {w w' : World} {at_ : Nat} {ns : List ByteArray} {pl er : Int} {S : Nat → Prop} {t : T} {v : Value} (ht : TP w S t v) (h : Fr c w w') (hr : Rd w c at_ ns pl er) : TP w' S t v :=
 ht.keep fun _ _ _ hS hb => ⟨h.box hr hb (by decide) (by decide), hS⟩
theorem TokW.keep {w w' : World} {c : Rdc} (h : TokW w c) (hk : ∀ (b : Nat) (cs : Array Value), w.heap[b]? = some (.cells cs 83 (0, 0)) → w'.heap[b]? = w.heap[b]?) : TokW w' c :=
 ⟨h.len, h.few, h.long, h.ok, h.cap, h.nil, h.BR, h.nm, fun h0 => by
  obtain ⟨g, cur, hA, hg, hc⟩ := h.blk h0
  exact ⟨g, cur, hA, (hk g cur hg).trans hg, hc⟩⟩
theorem Rd.below {w w' : World} {c : Rdc} {at_ : Nat} {ns : List ByteArray} {pl er : Int} (h : Rd w c at_ ns pl er) (hb : Below w.heap.size w w') : Rd w' c at_ ns pl er := by
 obtain ⟨ht, nv, nn, hr⟩ := h
 exact ⟨ht.keep fun b cs h => hb.block b (heap_lt h), nv, nn, (hb.block _ (heap_lt hr.blk)).trans hr.blk, own_below hr.own hb, hr.up, hr.few⟩
theorem Rd.alloc {w : World} {c : Rdc} {at_ : Nat} {ns : List ByteArray} {pl er : Int} (h : Rd w c at_ ns pl er) (o : Obj) : Rd (w.alloc o) c at_ ns pl er := h.below ((Below.refl _ _).alloc (Nat.le_refl _) o)
theorem Rd.set_far {w : World} {c : Rdc} {at_ : Nat} {ns : List ByteArray} {pl er : Int} (h : Rd w c at_ ns pl er) {b : Nat} {cs : Array Value} {t : TypeId} {m : Nat × Nat} (hb : w.heap[b]? = some (.cells cs t m)) (i : Nat) (u : Value)
 (h1 : t ≠ 9) (h2 : t ≠ 80) (h3 : t ≠ 83) : Rd (w.setCell ⟨b, i, none⟩ u) c at_ ns pl er := by
 have key : ∀ (g : Nat) (cs' : Array Value) (t' : TypeId) (m' : Nat × Nat), w.heap[g]? = some (.cells cs' t' m') → t ≠ t' → (w.setCell ⟨b, i, none⟩ u).heap[g]? = w.heap[g]? := fun g cs' t' m' hg hne => Below.heap_setCell _ _ _ _ (by
  rintro rfl
  rw [show w.heap[_]? = _ from hb] at hg
  injection hg with hg
  injection hg with _ hg
  exact hne hg)
 obtain ⟨ht, nv, nn, hr⟩ := h
 refine ⟨ht.keep fun g cs hg => key g _ _ _ hg h3, nv, nn, (key _ _ _ _ hr.blk h2).trans hr.blk, own_keep hr.own fun g hg => ?_, hr.up, hr.few⟩
 rcases hr.own.2 with ⟨hv, _⟩ | ⟨g', cap, cur, hv, _, hh, _⟩
 ·rw [hv] at hg; simp [Value.ownBlock] at hg
 ·rw [hv] at hg
  simp [Value.ownBlock] at hg
  subst hg
  exact key _ _ _ _ hh h1
theorem RdW.cells {w : World} {c : Rdc} {at_ : Nat} {nv : Value} {nn : Nat} {names : List ByteArray} {place er : Int} (h : RdW w c at_ nv nn names place er) :
 w.cell? ⟨c.R, 0, none⟩ = some (.string c.s) ∧ w.cell? ⟨c.R, 1, none⟩ = some (.slice c.TA c.tn c.tc) ∧ w.cell? ⟨c.R, 2, none⟩ = some (.int .i64 (at_ : Int)) ∧ w.cell? ⟨c.R, 3, none⟩ = some nv ∧
  w.cell? ⟨c.R, 4, none⟩ = some (.int .i64 place) ∧ w.cell? ⟨c.R, 5, none⟩ = some (.int .i64 er) :=
 ⟨cell_of_row w _ 0 _ _ _ h.blk, cell_of_row w _ 1 _ _ _ h.blk, cell_of_row w _ 2 _ _ _ h.blk, cell_of_row w _ 3 _ _ _ h.blk, cell_of_row w _ 4 _ _ _ h.blk, cell_of_row w _ 5 _ _ _ h.blk⟩
theorem RdW.thaw {w : World} {c : Rdc} {at_ : Nat} {nv : Value} {nn : Nat} {names : List ByteArray} {place er : Int} (h : RdW w c at_ nv nn names place er) (i : Nat) : w.frozen? ⟨c.R, i, none⟩ = false := by
 simp [World.frozen?, h.blk]
theorem Fr.setR {c : Rdc} {w : World} (hB : c.B ≤ c.R) (i : Nat) (u : Value) : Fr c w (w.setCell ⟨c.R, i, none⟩ u) :=
 ⟨(Below.refl _ _).setCell (p := ⟨c.R, i, none⟩) hB u, fun _ _ _ _ hb hne _ => (Below.heap_setCell _ _ _ _ hne).trans hb⟩
theorem TokW.setR {w : World} {c : Rdc} {at_ : Nat} {nv : Value} {nn : Nat} {names : List ByteArray} {place er : Int} (ht : TokW w c) (h : RdW w c at_ nv nn names place er) (i : Nat) (u : Value) : TokW (w.setCell ⟨c.R, i, none⟩ u) c :=
 ht.keep fun _ cs hb => Below.heap_setCell _ _ _ _ (by
  rintro rfl
  rw [h.blk] at hb
  injection hb with hb
  injection hb with _ hb
  exact absurd hb (by decide))
theorem own_setR {w : World} {c : Rdc} {at_ : Nat} {nv : Value} {nn : Nat} {names : List ByteArray} {place er : Int} (h : RdW w c at_ nv nn names place er) (i : Nat) (u : Value) :
 (w.setCell ⟨c.R, i, none⟩ u).ownsRow c.B 9 1 nv nn (names.map Value.string) :=
 own_keep h.own fun g hg => Below.heap_setCell _ _ _ _ (by
  rintro rfl
  rcases h.own.2 with ⟨hv, _⟩ | ⟨g', cap, cur, hv, _, hh, _⟩
  ·rw [hv] at hg; simp [Value.ownBlock] at hg
  ·rw [hv] at hg
   simp [Value.ownBlock] at hg
   subst hg
   rw [h.blk] at hh
   injection hh with hh
   injection hh with _ hh
   exact absurd hh (by decide))
theorem Rd.next {w : World} {c : Rdc} {at_ : Nat} {ns : List ByteArray} {pl er : Int} (h : Rd w c at_ ns pl er) (hlt : at_ < c.tn) : Rd (w.setCell ⟨c.R, 2, none⟩ (.int .i64 ((at_ : Int) + 1))) c (at_ + 1) ns pl er := by
 obtain ⟨ht, nv, nn, hr⟩ := h
 exact ⟨ht.setR hr _ _, nv, nn, by simpa using blk_set hr.blk 2 (.int .i64 ((at_ : Int) + 1)), own_setR hr _ _, hlt, Nat.le_succ_of_le hr.few⟩
theorem Rd.place {w : World} {c : Rdc} {at_ : Nat} {ns : List ByteArray} {pl er : Int} (h : Rd w c at_ ns pl er) (p : Int) : Rd (w.setCell ⟨c.R, 4, none⟩ (.int .i64 p)) c at_ ns p er := by
 obtain ⟨ht, nv, nn, hr⟩ := h
 exact ⟨ht.setR hr _ _, nv, nn, by simpa using blk_set hr.blk 4 (.int .i64 p), own_setR hr _ _, hr.up, hr.few⟩
theorem Rd.err {w : World} {c : Rdc} {at_ : Nat} {ns : List ByteArray} {pl er : Int} (h : Rd w c at_ ns pl er) (p : Int) : Rd (w.setCell ⟨c.R, 5, none⟩ (.int .i64 p)) c at_ ns pl p := by
 obtain ⟨ht, nv, nn, hr⟩ := h
 exact ⟨ht.setR hr _ _, nv, nn, by simpa using blk_set hr.blk 5 (.int .i64 p), own_setR hr _ _, hr.up, hr.few⟩
def nx (c : Rdc) (at_ : Nat) : Tk := nxT c.tk c.s.size at_
theorem nx_lt {w : World} {c : Rdc} {at_ : Nat} {ns : List ByteArray} {pl er : Int} (h : Rd w c at_ ns pl er) (hk : (nx c at_).k ≠ 0) : at_ < c.tn := by
 have hl := h.1.len
 rcases Nat.lt_or_ge at_ c.tn with h1 | h1
 ·exact h1
 ·simp [nx, nxT, show ¬ at_ < c.tk.length by omega] at hk
theorem nx_size {w : World} {c : Rdc} {at_ : Nat} {ns : List ByteArray} {pl er : Int} (h : Rd w c at_ ns pl er) : nameOk (nx c at_).t := by
 unfold nx nxT
 split
 ·rename_i hlt
  exact ⟨Nat.le_trans (h.1.ok _ (List.getElem_mem hlt)).2.2.1 h.1.long, h.1.nm _ (List.getElem_mem hlt)⟩
 ·exact (show nameOk ⟨#[]⟩ by decide)
end Go.Proofs.YtibcpdmeigdgpaaGreatDoor
namespace Go.Proofs.YtibcpdmeigdgpaaGreatDoor
open Go.RowKit
theorem tok_cells {w : World} {c : Rdc} (h : TokW w c) {i : Nat} (hi : i < c.tn) : ∃ g, c.TA = some ⟨g, 0, none⟩ ∧ w.cell? ⟨g, i * 4, none⟩ = some (.int .i64 (nx c i).k) ∧ w.cell? ⟨g, i * 4 + 1, none⟩ = some (.string (nx c i).t) ∧
 w.cell? ⟨g, i * 4 + 2, none⟩ = some (.int .i64 ((nx c i).a : Int)) ∧ w.cell? ⟨g, i * 4 + 3, none⟩ = some (.int .i64 ((nx c i).b : Int)) := by
 obtain ⟨g, cur, hA, hg, hc⟩ := h.blk (by omega)
 have hl : i < c.tk.length := by have := h.len; omega
 have hx : nx c i = c.tk[i] := by simp [nx, nxT, hl]
 have key : ∀ j, j < 4 → w.cell? ⟨g, i * 4 + j, none⟩ = (nx c i).cells[j]? := fun j hj => by
  rw [cell_of_row w g (i * 4 + j) _ _ _ hg, hc _ (by omega), hx, Nat.mul_comm i 4]
  exact tkCells_at c.tk i hl j hj
 exact ⟨g, hA, by simpa [Tk.cells] using key 0 (by omega), by simpa [Tk.cells] using key 1 (by omega), by simpa [Tk.cells] using key 2 (by omega), by simpa [Tk.cells] using key 3 (by omega)⟩
set_option maxRecDepth 100000 in
set_option maxHeartbeats 1000000 in
theorem next_any {c : Rdc} {i : Nat} {ns : List ByteArray} {pl er : Int} (w : World) (h : Rd w c i ns pl er) : Calls Tryz.prog 27 #[.pointer (some ⟨c.R, 0, none⟩)] w fun e w' => e = .returned (.agg #[.int .i64 (nx c i).k, .string (nx c i).t, .int .i64 ((nx c i).a : Int), .int .i64 ((nx c i).b : Int)]) ∧ Below w.heap.size w w' := by
 have hlt := h.lt
 obtain ⟨ht, nv, nn, hr⟩ := h
 obtain ⟨r0, r1, r2, r3, r4, r5⟩ := hr.cells
 have hup := hr.up
 have HT := Lib.hid ht
 clear hr ht
 by_cases hi : i < c.tn
 ·have hi' : (i : Int) < (c.tn : Int) := by omega
  obtain ⟨g, hA, t0, t1, t2, t3⟩ := tok_cells HT.out hi
  rw [hA] at r1
  have hg := World.block_lt_of_cell? w _ t0
  dsimp only at hg
  go_enter Tryz.func27, Tryz.ntmps27
  go_wp2_with fail
  go_region
  go_wp2_with fail
  go_region
  go_wp2_with fail
  refine bodyPost_ret (v := (.agg #[.int .i64 (nx c i).k, .string (nx c i).t, .int .i64 ((nx c i).a : Int), .int .i64 ((nx c i).b : Int)])) (by simp [results, go_sem]) rfl ?_
  refine ⟨rfl, ?_⟩
  exact (((Below.refl _ _).alloc (Nat.le_refl _) _).drew).drew
 ·have hi' : ¬ (i : Int) < (c.tn : Int) := by omega
  go_enter Tryz.func27, Tryz.ntmps27
  go_wp2_with fail
  go_region
  go_wp2_with fail
  have hx : nx c i = ⟨0, ⟨#[]⟩, c.s.size, 0⟩ := by
   have hl := HT.out.len
   simp [nx, nxT, show ¬ i < c.tk.length by omega]
  refine bodyPost_ret (v := (.agg #[.int .i64 (nx c i).k, .string (nx c i).t, .int .i64 ((nx c i).a : Int), .int .i64 ((nx c i).b : Int)])) (by simp [results, go_sem, hx]) rfl ?_
  refine ⟨rfl, ?_⟩
  exact ((Below.refl _ _).alloc (Nat.le_refl _) _).drew
set_option maxRecDepth 100000 in
set_option maxHeartbeats 1000000 in
theorem mark_any {c : Rdc} {i : Nat} {ns : List ByteArray} {pl er : Int} (tx : ByteArray) (w : World) (h : Rd w c i ns pl er) : Calls Tryz.prog 51 #[.pointer (some ⟨c.R, 0, none⟩), .string tx] w fun e w' =>
 (∃ b, e = .returned (.bool b) ∧ (b = true → (nx c i).k = 5) ∧ Hid (isM c.tk c.s.size i tx = b)) ∧ Below w.heap.size w w' := by
 go_enter Tryz.func51, Tryz.ntmps51
 go_wp2_with fail
 refine (next_any _ h).mono ?_
 rintro e w1 ⟨rfl, h1⟩
 by_cases h5 : (nx c i).k = 5
 ·have h5' : ((nx c i).k == 5) = true := by simpa using h5
  go_wp2
  go_ret
  exact ⟨⟨_, rfl, fun _ => h5, Lib.hid (by unfold isM; rw [show nxT c.tk c.s.size i = nx c i from rfl, h5']; rfl)⟩, h1.alloc h1.size _⟩
 ·have h5' : ((nx c i).k == 5) = false := by simpa using h5
  go_wp2
  go_ret
  exact ⟨⟨_, rfl, (fun h => by cases h), Lib.hid (by unfold isM; rw [show nxT c.tk c.s.size i = nx c i from rfl, h5']; rfl)⟩, h1.alloc h1.size _⟩
set_option maxRecDepth 100000 in
set_option maxHeartbeats 1000000 in
theorem fail_any {c : Rdc} {i : Nat} {ns : List ByteArray} {pl er : Int} (p k : Int) (w : World) (hk : k ≠ 0) (h : Rd w c i ns pl er) : Calls Tryz.prog 49 #[.pointer (some ⟨c.R, 0, none⟩), .int .i64 p, .int .i64 k] w fun e w' =>
 e = .returned (.tuple #[]) ∧ (∃ er' pl', Rd w' c i ns pl' er' ∧ er' ≠ 0 ∧ Hid (∀ x : Unit × Nat × List ByteArray, Sp er pl er' pl' (.error (p, k)) x)) ∧ Fr c w w' := by
 have H := Lib.hid h
 have hBR := h.1.BR
 obtain ⟨ht, nv, nn, hr⟩ := h
 obtain ⟨r0, r1, r2, r3, r4, r5⟩ := hr.cells
 have rf := hr.thaw
 clear hr ht
 by_cases h0 : er = 0
 ·subst h0
  go_enter Tryz.func49, Tryz.ntmps49
  go_wp2
  go_end0
  exact ⟨rfl, ⟨k, p, (H.out.place p).err k, hk, Lib.hid fun x => Sp.err hk x⟩, (Fr.setR hBR _ _).trans (Fr.setR hBR _ _)⟩
 ·have h0' : (er == 0) = false := by simpa using h0
  go_enter Tryz.func49, Tryz.ntmps49
  go_wp2
  go_end0
  exact ⟨rfl, ⟨er, pl, H.out, h0, Lib.hid fun x => Sp.stays h0 _ x⟩, Fr.refl _ _⟩
theorem fld_tok2 (a b d : Value) (n : Int) (W : World) : (Instr.field 83 (.agg #[a, b, .int .i64 n, d]) 2).run Tryz.prog W = .ok (.int .i64 n) W := by kernel_rfl
set_option maxRecDepth 100000 in
set_option maxHeartbeats 1000000 in
theorem wrong_any {c : Rdc} {i : Nat} {ns : List ByteArray} {pl er : Int} (w : World) (h : Rd w c i ns pl er) : Calls Tryz.prog 28 #[.pointer (some ⟨c.R, 0, none⟩)] w fun e w' =>
 e = .returned (.tuple #[]) ∧ (∃ er' pl', Rd w' c i ns pl' er' ∧ er' ≠ 0 ∧ Hid (∀ x : Unit × Nat × List ByteArray, Sp er pl er' pl' (.error (errA c.tk c.s.size i 50)) x)) ∧ Fr c w w' := by
 have H := Lib.hid h
 clear h
 have fl := fld_tok2
 go_enter Tryz.func28, Tryz.ntmps28
 go_wp2_with fail
 refine (next_any _ H.out).mono ?_
 rintro e w1 ⟨rfl, h1⟩
 go_wp2_with fail
 refine (fail_any _ 50 _ (by decide) (H.out.below h1)).mono ?_
 rintro e w2 ⟨rfl, ⟨er2, pl2, h2, hn2, hs2⟩, f2⟩
 go_wp2_with fail
 go_end0
 exact ⟨rfl, ⟨er2, pl2, h2, hn2, hs2⟩, (Fr.of_below h1 H.out.base).trans f2⟩
set_option maxRecDepth 100000 in
set_option maxHeartbeats 1000000 in
theorem rmust_any {c : Rdc} {i : Nat} {ns : List ByteArray} {pl er : Int} (tx : ByteArray) (w : World) (h : Rd w c i ns pl er) : Calls Tryz.prog 70 #[.pointer (some ⟨c.R, 0, none⟩), .string tx] w fun e w' =>
 e = .returned (.tuple #[]) ∧ (∃ j er' pl', Rd w' c j ns pl' er' ∧ i ≤ j ∧ (er' = 0 → er = 0 ∧ j = i + 1) ∧ Hid (Sp er pl er' pl' (mustN c.tk c.s.size tx () i ns) ((), j, ns))) ∧ Fr c w w' := by
 have H := Lib.hid h
 have hBR := h.1.BR
 obtain ⟨ht, nv, nn, hr⟩ := h
 obtain ⟨r0, r1, r2, r3, r4, r5⟩ := hr.cells
 clear hr ht
 by_cases h0 : er = 0
 ·subst h0
  go_enter Tryz.func70, Tryz.ntmps70
  go_wp2_with fail
  refine (mark_any tx _ H.out).mono ?_
  rintro e w1 ⟨⟨b, rfl, hb, hM⟩, h1⟩
  have H1 := Lib.hid (H.out.below h1)
  have F1 := Lib.hid (Fr.of_below h1 H.out.base)
  clear h1
  cases b with
  | false =>
   go_wp2_with fail
   refine (wrong_any _ H1.out).mono ?_
   rintro e w2 ⟨rfl, ⟨er2, pl2, h2, hn2, hs2⟩, f2⟩
   go_wp2_with fail
   refine bodyPost_ret (results_none rfl _ _ _) rfl ?_
   exact ⟨rfl, ⟨_, _, _, h2, Nat.le_refl _, (fun h => absurd h hn2), Lib.hid (by rw [show mustN c.tk c.s.size tx () i ns = .error (errA c.tk c.s.size i 50) by unfold mustN; rw [hM.out]; rfl]; exact hs2.out _)⟩, F1.out.trans f2⟩
  | true =>
   have hlt := nx_lt H1.out (by rw [hb rfl]; decide)
   have H2 := Lib.hid (H1.out.next hlt)
   have F2 := Lib.hid (F1.out.trans (Fr.setR hBR 2 (.int .i64 ((i : Int) + 1))))
   have hle := Lib.hid H1.out.1.few
   obtain ⟨_, _, _, hr1⟩ := H1.out
   obtain ⟨r0, r1, r2, r3, r4, r5⟩ := hr1.cells
   have rf := hr1.thaw
   have hi : (i : Int) < 1000 := by have := hle.out; omega
   clear hr1 hb
   go_wp2_with fail
   go_end0
   exact ⟨rfl, ⟨_, _, _, H2.out, by omega, (fun _ => by simp), Lib.hid (by rw [show mustN c.tk c.s.size tx () i ns = .ok ((), i + 1, ns) by unfold mustN; rw [hM.out]; rfl]; exact Sp.ok _ _ _)⟩, F2.out⟩
 ·have h0' : (er != 0) = true := by simpa using h0
  go_enter Tryz.func70, Tryz.ntmps70
  go_wp2
  refine bodyPost_ret (results_none rfl _ _ _) rfl ?_
  exact ⟨rfl, ⟨i, er, pl, H.out, Nat.le_refl _, (fun h => absurd h h0), Lib.hid (Sp.stays h0 _ _)⟩, Fr.refl _ _⟩
end Go.Proofs.YtibcpdmeigdgpaaGreatDoor
