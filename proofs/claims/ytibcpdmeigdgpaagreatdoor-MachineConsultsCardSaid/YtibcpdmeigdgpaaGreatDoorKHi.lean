/- A program under way: a box of two rows that grow. Consult of the reference. -/
import Derived.Test.YtibcpdmeigdgpaaGreatDoorKHh
import Derived.Test.YtibcpdmeigdgpaaGreatDoorKRd13
namespace Go.Proofs.YtibcpdmeigdgpaaGreatDoor
open Go.RowKit
structure RCo (PT CT : TypeId) (csz B : Nat) (w1 wr : World) (pb : Nat) (LA : Option Addr) (ln lc : Nat) (HA : Option Addr) (hn hc : Nat) (xs ys : List Value) : Prop where
 low : Below B w1 wr
 box : wr.heap[pb]? = some (.cells #[.slice LA ln lc, .slice HA hn hc] PT (0, 0))
 lo : B ≤ pb
 L : wr.ownsRow B CT csz (.slice LA ln lc) ln xs
 H : wr.ownsRow B 39 4 (.slice HA hn hc) hn ys
section
variable {PT CT : TypeId} {csz B : Nat} {w1 wr : World} {pb : Nat} {LA : Option Addr} {ln lc : Nat} {HA : Option Addr} {hn hc : Nat} {xs ys : List Value}
theorem RCo.below {w' : World} (h : RCo PT CT csz B w1 wr pb LA ln lc HA hn hc xs ys) (hb : Below wr.heap.size wr w') (hB : B ≤ wr.heap.size) : RCo PT CT csz B w1 w' pb LA ln lc HA hn hc xs ys :=
 ⟨h.low.trans (hb.mono hB), (hb.block _ (heap_lt h.box)).trans h.box, h.lo, own_below h.L hb, own_below h.H hb⟩
theorem row_ne {w : World} {B size n : Nat} {e : TypeId} {v : Value} {xs : List Value} (h : w.ownsRow B e size v n xs) {b : Nat} {cs : Array Value} {t : TypeId} {f : Nat × Nat} (hb : w.heap[b]? = some (.cells cs t f)) (ht : t ≠ e) : some b ≠ v.ownBlock := fun e' => by
 obtain ⟨cs', f', hh⟩ := Go.Lib.ownsRow_kind h _ e'.symm
 rw [hb] at hh
 injection hh with hh
 injection hh with _ hh
 exact ht hh
theorem row_ne' {w : World} {B size n : Nat} {e : TypeId} {v : Value} {xs : List Value} (h : w.ownsRow B e size v n xs) {g : Nat} (hat : v.ownBlock = some g ∨ g = w.heap.size) {b : Nat} {cs : Array Value} {t : TypeId} {f : Nat × Nat} (hb : w.heap[b]? = some (.cells cs t f)) (ht : t ≠ e) : some b ≠ v.ownBlock ∧ b ≠ g := by
 have h1 := row_ne h hb ht
 refine ⟨h1, fun e => ?_⟩
 subst e
 rcases hat with h2 | h2
 ·exact h1 h2.symm
 ·have := heap_lt hb; omega
theorem own_stand {w w' : World} {B size n : Nat} {e : TypeId} {v : Value} {xs : List Value} (h : w.ownsRow B e size v n xs) (hk : ∀ (b : Nat) (cs : Array Value) (f : Nat × Nat), w.heap[b]? = some (.cells cs e f) → w'.heap[b]? = some (.cells cs e f)) : w'.ownsRow B e size v n xs := own_keep h fun g hg => by
 obtain ⟨cs, f, hh⟩ := Go.Lib.ownsRow_kind h _ hg
 exact (hk g cs f hh).trans hh.symm
theorem RCo.box5 {w5 : World} (h : RCo PT CT csz B w1 wr pb LA ln lc HA hn hc xs ys) {e : TypeId} {size n g : Nat} {v : Value} {zs : List Value} (hv : wr.ownsRow B e size v n zs) (he : PT ≠ e) (hg : wr.grownBy w5 v.ownBlock) (hat : v.ownBlock = some g ∨ g = wr.heap.size) :
 pb ≠ g ∧ w5.heap[pb]? = some (.cells #[.slice LA ln lc, .slice HA hn hc] PT (0, 0)) := by
 obtain ⟨h1, h2⟩ := row_ne' hv hat h.box he
 exact ⟨h2, (hg.block _ (heap_lt h.box) h1).trans h.box⟩
theorem RCo.pushL {w5 : World} (h : RCo PT CT csz B w1 wr pb LA ln lc HA hn hc xs ys) (hPC : PT ≠ CT) (hCT : CT ≠ 39) (hPT : PT ≠ 39) (hB : B ≤ wr.heap.size) {g cap : Nat} {us : List Value}
 (hown : w5.ownsRow B CT csz (.slice (some ⟨g, 0, none⟩) (ln + 1) cap) (ln + 1) (xs ++ us)) (hg : wr.grownBy w5 (Value.slice LA ln lc).ownBlock) (hat : (Value.slice LA ln lc).ownBlock = some g ∨ g = wr.heap.size) :
 RCo PT CT csz B w1 (w5.setCell ⟨pb, 0, none⟩ (.slice (some ⟨g, 0, none⟩) (ln + 1) cap)) pb (some ⟨g, 0, none⟩) (ln + 1) cap HA hn hc (xs ++ us) ys := by
 obtain ⟨h1, h2⟩ := row_ne' h.L hat h.box hPC
 have hb5 : w5.heap[pb]? = some (.cells #[.slice LA ln lc, .slice HA hn hc] PT (0, 0)) := (hg.block _ (heap_lt h.box) h1).trans h.box
 have keep : ∀ (b : Nat) (cs : Array Value) (e : TypeId) (f : Nat × Nat), e ≠ PT → w5.heap[b]? = some (.cells cs e f) → (w5.setCell ⟨pb, 0, none⟩ (.slice (some ⟨g, 0, none⟩) (ln + 1) cap)).heap[b]? = some (.cells cs e f) := fun b cs e f he hb => by
  refine (Below.heap_setCell _ _ _ _ fun e' => ?_).trans hb
  subst e'
  rw [hb5] at hb
  injection hb with hb
  injection hb with _ hb
  exact he hb.symm
 refine ⟨(h.low.grown hg hB (ownBlock_ge h.L)).setCell (p := ⟨pb, 0, none⟩) h.lo _, by simpa using blk_set hb5 0 (.slice (some ⟨g, 0, none⟩) (ln + 1) cap), h.lo, own_stand hown fun b cs f hb => keep b cs _ f (Ne.symm hPC) hb, ?_⟩
 refine own_stand h.H fun b cs f hb => keep b cs _ f (Ne.symm hPT) ?_
 exact (hg.block b (heap_lt hb) (row_ne h.L hb (Ne.symm hCT))).trans hb
theorem RCo.pushH {w5 w9 : World} (h : RCo PT CT csz B w1 wr pb LA ln lc HA hn hc xs ys) (hPC : PT ≠ CT) (hCT : CT ≠ 39) (hPT : PT ≠ 39) (hB : B ≤ wr.heap.size) {g cap : Nat} {zs us : List Value} (hz : zs.length = 4) (hu : us.length = 4)
 (hown : w5.ownsRow B 39 4 (.slice (some ⟨g, 0, none⟩) (hn + 1) cap) (hn + 1) (ys ++ zs)) (hg : wr.grownBy w5 (Value.slice HA hn hc).ownBlock) (hat : (Value.slice HA hn hc).ownBlock = some g ∨ g = wr.heap.size)
 (h9 : w9 = (w5.setCells g (hn * 4) us).setCell ⟨pb, 1, none⟩ (.slice (some ⟨g, 0, none⟩) (hn + 1) cap) ∨ w9 = (w5.setCell ⟨pb, 1, none⟩ (.slice (some ⟨g, 0, none⟩) (hn + 1) cap)).setCells g (hn * 4) us) :
 RCo PT CT csz B w1 w9 pb LA ln lc (some ⟨g, 0, none⟩) (hn + 1) cap xs (ys ++ us) := by
 obtain ⟨h1, h2⟩ := row_ne' h.H hat h.box hPT
 have hb5 : w5.heap[pb]? = some (.cells #[.slice LA ln lc, .slice HA hn hc] PT (0, 0)) := (hg.block _ (heap_lt h.box) h1).trans h.box
 have hyl : ys.length = hn * 4 := by have := own_len h.H; omega
 have keep : ∀ (w : World) (x : Value) (cs0 : Array Value) (f0 : Nat × Nat), w.heap[pb]? = some (.cells cs0 PT f0) → ∀ (b : Nat) (cs : Array Value) (e : TypeId) (f : Nat × Nat), e ≠ PT → w.heap[b]? = some (.cells cs e f) → (w.setCell ⟨pb, 1, none⟩ x).heap[b]? = some (.cells cs e f) := fun w x cs0 f0 h0 b cs e f he hb => by
  refine (Below.heap_setCell _ _ _ _ fun e' => ?_).trans hb
  subst e'
  rw [h0] at hb
  injection hb with hb
  injection hb with _ hb
  exact he hb.symm
 have hgB : B ≤ g := (hown.lt g rfl).1
 have set4 : ∀ {w : World}, w.ownsRow B 39 4 (.slice (some ⟨g, 0, none⟩) (hn + 1) cap) (hn + 1) (ys ++ zs) → (w.setCells g (hn * 4) us).ownsRow B 39 4 (.slice (some ⟨g, 0, none⟩) (hn + 1) cap) (hn + 1) (ys ++ us) := fun hw => by
  have h3 := setCells_own hw us (o := hn * 4) (by omega)
  rw [List.take_append_of_le_length (by omega), List.take_of_length_le (by omega), List.drop_of_length_le (by simp; omega), List.append_nil] at h3
  exact h3
 have hL5 : ∀ (b : Nat) (cs : Array Value) (f : Nat × Nat), wr.heap[b]? = some (.cells cs CT f) → w5.heap[b]? = some (.cells cs CT f) ∧ b ≠ g := fun b cs f hb => by
  obtain ⟨q1, q2⟩ := row_ne' h.H hat hb hCT
  exact ⟨(hg.block b (heap_lt hb) q1).trans hb, q2⟩
 have hlow5 : Below B w1 w5 := h.low.grown hg hB (ownBlock_ge h.H)
 rcases h9 with rfl | rfl
 ·have hb6 : (w5.setCells g (hn * 4) us).heap[pb]? = some (.cells #[.slice LA ln lc, .slice HA hn hc] PT (0, 0)) := (setCells_other h2 _ _ _).trans hb5
  exact ⟨(below_setCells hlow5 hgB _ _).setCell (p := ⟨pb, 1, none⟩) h.lo _, by simpa using blk_set hb6 1 (.slice (some ⟨g, 0, none⟩) (hn + 1) cap), h.lo,
   own_stand h.L fun b cs f hb => keep _ _ _ _ hb6 b cs _ f (Ne.symm hPC) ((setCells_other (hL5 b cs f hb).2 _ _ _).trans (hL5 b cs f hb).1),
   own_stand (set4 hown) fun b cs f hb => keep _ _ _ _ hb6 b cs _ f (Ne.symm hPT) hb⟩
 ·have hb6 : (w5.setCell ⟨pb, 1, none⟩ (.slice (some ⟨g, 0, none⟩) (hn + 1) cap)).heap[pb]? = some (.cells #[.slice LA ln lc, .slice (some ⟨g, 0, none⟩) (hn + 1) cap] PT (0, 0)) := by simpa using blk_set hb5 1 (.slice (some ⟨g, 0, none⟩) (hn + 1) cap)
  exact ⟨below_setCells (hlow5.setCell (p := ⟨pb, 1, none⟩) h.lo _) hgB _ _, (setCells_other h2 _ _ _).trans hb6, h.lo,
   own_stand h.L fun b cs f hb => (setCells_other (hL5 b cs f hb).2 _ _ _).trans (keep _ _ _ _ hb5 b cs _ f (Ne.symm hPC) (hL5 b cs f hb).1),
   set4 (own_stand hown fun b cs f hb => keep _ _ _ _ hb5 b cs _ f (Ne.symm hPT) hb)⟩
theorem rowH_last {w : World} {g n cap : Nat} {ys : List Value} (h : w.ownsRow B 39 4 (.slice (some ⟨g, 0, none⟩) (n + 1) cap) (n + 1) (ys ++ [.int .i64 0, .int .i64 0, .string ⟨#[]⟩, .slice none 0 0])) :
 w.cell? ⟨g, n * 4, none⟩ = some (.int .i64 0) ∧ w.cell? ⟨g, n * 4 + 1, none⟩ = some (.int .i64 0) ∧ w.cell? ⟨g, n * 4 + 2, none⟩ = some (.string ⟨#[]⟩) ∧ w.cell? ⟨g, n * 4 + 3, none⟩ = some (.slice none 0 0) ∧ (∀ i, w.frozen? ⟨g, i, none⟩ = false) ∧ g < w.heap.size := by
 have hl : ys.length = n * 4 := by have := own_len h; simp at this; omega
 obtain ⟨_, _, e, _, _, _, hx⟩ := own_open h
 injection e with e1 _ e3
 obtain ⟨g', cur, e4, _, hh, hc⟩ := hx (by omega)
 rw [← e1] at e4
 injection e4 with e4
 injection e4 with e4
 subst e4
 have at_ : ∀ j v, (ys ++ [.int .i64 0, .int .i64 0, .string ⟨#[]⟩, .slice none 0 0])[n * 4 + j]? = some v → j < 4 → w.cell? ⟨g, n * 4 + j, none⟩ = some v := fun j v hv hj => (cell_of_row _ _ _ _ _ _ hh).trans ((hc _ (by omega)).trans hv)
 refine ⟨at_ 0 _ ?_ (by omega), at_ 1 _ ?_ (by omega), at_ 2 _ ?_ (by omega), at_ 3 _ ?_ (by omega), fun i => by simp [World.frozen?, hh], heap_lt hh⟩ <;> (rw [List.getElem?_append_right (by omega), hl]; simp)
end
def SenX (w : World) (xs : List Value) (ss : List (T × List ByteArray)) : Prop := ∀ (k : Nat) (x : T × List ByteArray), ss[k]? = some x →
 ∃ (k0 k1 : Int) (k2 : ByteArray) (A : Option Addr) (m cc : Nat) (NA : Option Addr) (nn nc : Nat), xs[5 * k]? = some (.int .i64 k0) ∧ xs[5 * k + 1]? = some (.int .i64 k1) ∧ xs[5 * k + 2]? = some (.string k2) ∧ xs[5 * k + 3]? = some (.slice A m cc) ∧ xs[5 * k + 4]? = some (.slice NA nn nc) ∧
  TP w (fun b => b < w.heap.size) x.1 (.agg #[.int .i64 k0, .int .i64 k1, .string k2, .slice A m cc]) ∧ x.1.ok ∧ x.1.nodes ≤ 1000
theorem S5.senx {w : World} {lo : Nat} {xs : List Value} {ss : List (T × List ByteArray)} (h : S5 w lo xs ss.length (sensT ss)) : SenX w xs ss := fun k x hx => by
 have hk : k < ss.length := (List.getElem?_eq_some_iff.1 hx).1
 obtain ⟨v0, v1, v2, v3, NA, nn, nc, h0, h1, h2, h3, h4, ht, hg, hn⟩ := h k hk
 have e : sensT ss k = x.1 := by simp [sensT, hx]
 rw [e] at ht hg hn
 obtain ⟨k0, k1, k2, A, m, cc, e2⟩ := ht.agg
 injection e2 with e2
 simp only [Array.mk.injEq, List.cons.injEq, and_true] at e2
 obtain ⟨rfl, rfl, rfl, rfl⟩ := e2
 exact ⟨k0, k1, k2, A, m, cc, NA, nn, nc, h0, h1, h2, h3, h4, ht.old.more fun b hb => hb.2, ⟨hg, by omega⟩, hn⟩
theorem SenX.at_ {w : World} {B : Nat} {v : Value} {xs : List Value} {ss : List (T × List ByteArray)} (h : SenX w xs ss) (ho : w.ownsRow B 42 5 v ss.length xs) {k : Nat} {x : T × List ByteArray} (hx : ss[k]? = some x) :
 ∃ (g : Nat) (c : Nat) (k0 k1 : Int) (k2 : ByteArray) (A : Option Addr) (m cc : Nat) (NA : Option Addr) (nn nc : Nat), v = .slice (some ⟨g, 0, none⟩) ss.length c ∧ g < w.heap.size ∧ w.cell? ⟨g, k * 5, none⟩ = some (.int .i64 k0) ∧ w.cell? ⟨g, k * 5 + 1, none⟩ = some (.int .i64 k1) ∧ w.cell? ⟨g, k * 5 + 2, none⟩ = some (.string k2) ∧ w.cell? ⟨g, k * 5 + 3, none⟩ = some (.slice A m cc) ∧ w.cell? ⟨g, k * 5 + 4, none⟩ = some (.slice NA nn nc) ∧
  TP w (fun b => b < w.heap.size) x.1 (.agg #[.int .i64 k0, .int .i64 k1, .string k2, .slice A m cc]) ∧ x.1.ok ∧ x.1.nodes ≤ 1000 := by
 have hk : k < ss.length := (List.getElem?_eq_some_iff.1 hx).1
 obtain ⟨k0, k1, k2, A, m, cc, NA, nn, nc, h0, h1, h2, h3, h4, ht, hg, hn⟩ := h k x hx
 obtain ⟨A', c, rfl, _, _, _, hxx⟩ := own_open ho
 obtain ⟨g, cur, rfl, _, hh, hcur⟩ := hxx (by omega)
 have hat : ∀ j u, j < 5 → xs[5 * k + j]? = some u → w.cell? ⟨g, k * 5 + j, none⟩ = some u := fun j u hj hu => by
  rw [Nat.mul_comm k 5]
  exact ((cell_of_row _ _ _ _ _ _ hh).trans (hcur _ (by omega))).trans hu
 exact ⟨g, c, k0, k1, k2, A, m, cc, NA, nn, nc, rfl, heap_lt hh, hat 0 _ (by omega) h0, hat 1 _ (by omega) h1, hat 2 _ (by omega) h2, hat 3 _ (by omega) h3, hat 4 _ (by omega) h4, ht, hg, hn⟩
def ConsR (r : Option (Int × Int)) (pv : Value) (p er : Int) : Prop := match r with
 | some (q, k) => p = q ∧ er = k ∧ k ≠ 0 ∧ pv = .pointer none
 | none => p = 0 ∧ er = 0 ∧ ∃ g, pv = .pointer (some ⟨g, 0, none⟩)
def ConsP (s : ByteArray) (w : World) (e : Ending) (w' : World) : Prop := (∃ (a : Option Addr) (p er : Int), e = .returned (.tuple #[.pointer a, .int .i64 p, .int .i64 er]) ∧ Hid (ConsR (consN s) (.pointer a) p er)) ∧ Below w.heap.size w w'
theorem cons_err {s : ByteArray} {p er : Int} (h : readN s = .error (p, er)) (hn : er ≠ 0) : ConsR (consN s) (.pointer none) p er := by
 unfold consN
 rw [h]
 exact ⟨rfl, rfl, hn, rfl⟩
theorem cons_some {s : ByteArray} {l : List (T × List ByteArray)} {p er : Int} (h : readN s = .ok l) (h2 : consC 0 l = some (p, er)) (hn : er ≠ 0) : ConsR (consN s) (.pointer none) p er := by
 unfold consN
 rw [h]
 show ConsR (consC 0 l) _ _ _
 rw [h2]
 exact ⟨rfl, rfl, hn, rfl⟩
theorem cons_none {s : ByteArray} {l : List (T × List ByteArray)} (h : readN s = .ok l) (h2 : consC 0 l = none) (g : Nat) : ConsR (consN s) (.pointer (some ⟨g, 0, none⟩)) 0 0 := by
 unfold consN
 rw [h]
 show ConsR (consC 0 l) _ _ _
 rw [h2]
 exact ⟨rfl, rfl, g, rfl⟩
theorem drop_at {α : Type} {l : List α} {i : Nat} {x : α} (h : l[i]? = some x) : l.drop i = x :: l.drop (i + 1) := by
 obtain ⟨h1, rfl⟩ := List.getElem?_eq_some_iff.1 h
 exact List.drop_eq_getElem_cons h1
theorem cons_many {l : List (T × List ByteArray)} {x : T × List ByteArray} (h : l[200]? = some x) : consC 200 (l.drop 200) = some (201, 34) := by rw [drop_at h]; rfl
theorem cons_bad {l : List (T × List ByteArray)} {i : Nat} {x : T × List ByteArray} {e : Int} (h : l[i]? = some x) (hi : i ≠ 200) (hs : splitT x.1 = .error e) : consC i (l.drop i) = some ((i : Int) + 1, e) := by
 rw [drop_at h, consC, if_neg hi, hs]
theorem cons_res {l : List (T × List ByteArray)} {i : Nat} {x : T × List ByteArray} {a b : T} {nm : List UInt8} {n : Nat} (h : l[i]? = some x) (hi : i ≠ 200) (hs : splitT x.1 = .ok (a, b)) (hn : nameT a = some (nm, n)) (hr : resT nm n = true) : consC i (l.drop i) = some ((i : Int) + 1, 100) := by
 rw [drop_at h, consC, if_neg hi, hs]
 simp only [hn, hr, if_true]
theorem cons_next {l : List (T × List ByteArray)} {i : Nat} {x : T × List ByteArray} {a b : T} {nm : List UInt8} {n : Nat} (h : l[i]? = some x) (hi : i ≠ 200) (hs : splitT x.1 = .ok (a, b)) (hn : nameT a = some (nm, n)) (hr : resT nm n = false) : consC i (l.drop i) = consC (i + 1) (l.drop (i + 1)) := by
 rw [drop_at h, consC, if_neg hi, hs]
 simp only [hn, hr]
 rfl
end Go.Proofs.YtibcpdmeigdgpaaGreatDoor
namespace Go.Proofs.YtibcpdmeigdgpaaGreatDoor
open Go.RowKit
theorem Tryz.info_cl : (Tryz.prog.info? 60).map (fun i => (i.zero, i.size, i.bytes)) = some (some (.agg #[.int .i64 0, .int .i64 0, .int .i64 0, .string ⟨#[]⟩, .slice none 0 0, .int .i64 0, .int .i64 0, .string ⟨#[]⟩, .slice none 0 0]), 9, 120) := by kernel_rfl
theorem split_name {t a b : T} (h : splitT t = .ok (a, b)) : ∃ nm n, nameT a = some (nm, n) := by
 rw [splitT_eq rfl] at h
 unfold splitH at h
 generalize (if isN t [58, 45] 2 = true then neckT t 0 else t) = x at h
 generalize (if isN t [58, 45] 2 = true then neckT t 1 else trueT) = y at h
 cases hn : nameT x with
 | none => rw [hn] at h; cases h
 | some q =>
  rw [hn] at h
  split at h
  ·cases h
  ·split at h
   ·cases h
   ·injection h with h
    injection h with h _
    subst h
    exact ⟨q.1, q.2, hn⟩
theorem name_nameV {k n : Int} {s : ByteArray} {m : Nat} {a : Nat → T} {nm : List UInt8} {q : Nat} (h : nameT (.mk k n s m a) = some (nm, q)) : nameV k s m = .tuple #[.string s, .int .i64 (q : Int), .bool true] ∧ s.data.toList = nm := by
 unfold nameT at h
 dsimp only at h
 unfold nameV
 by_cases h3 : k = 3
 ·rw [if_pos h3] at h ⊢
  injection h with h
  injection h with h1 h2
  subst h2
  exact ⟨rfl, h1⟩
 ·rw [if_neg h3] at h ⊢
  by_cases h4 : k = 4
  ·rw [if_pos h4] at h ⊢
   injection h with h
   injection h with h1 h2
   subst h2
   exact ⟨rfl, h1⟩
  ·rw [if_neg h4] at h
   cases h
set_option maxRecDepth 100000 in
set_option maxHeartbeats 8000000 in
theorem rconsult_any (s : ByteArray) (w : World) : Calls Tryz.prog 5 #[.string s] w fun e w' => ConsP s w e w' := by
 obtain ⟨itemI, jj1, jj2, jj3, jj4⟩ := elTerm.hi
 obtain ⟨clI, kk1, kk2, kk3, kk4⟩ := info_parts Tryz.info_cl
 go_enter Tryz.func5, Tryz.ntmps5
 go_wp2_with fail
 refine (readx_any s _).mono ?_
 rintro e w1 ⟨⟨v, p, er, rfl, hq⟩, h1⟩
 have B1 := Lib.hid h1
 unfold ReadQ at hq
 cases hr : readN s with
 | error e0 =>
  obtain ⟨q, k⟩ := e0
  rw [hr] at hq
  obtain ⟨rfl, rfl, hne, rfl⟩ := hq
  have HR := Lib.hid (cons_err hr hne)
  have her : (er == 0) = false := by simpa using hne
  clear hr hne h1
  go_wp2_with fail
  refine bodyPost_ret (v := .tuple #[.pointer none, .int .i64 p, .int .i64 er]) (by simp [results, go_sem]) rfl ?_
  exact ⟨⟨_, _, _, rfl, HR⟩, B1.out⟩
 | ok l =>
  rw [hr] at hq
  obtain ⟨rfl, rfl, xs, hown, hs5, hlen, _⟩ := hq
  have HR := Lib.hid hr
  have SX := Lib.hid hs5.senx
  have OW := Lib.hid hown
  have hlen' : (l.length : Int) ≤ 1000 := by omega
  obtain ⟨VA, vc, rfl, _, _, _, _⟩ := own_open hown
  clear hr hs5 hown h1
  have R0 := Lib.hid (show RCo 58 60 9 w1.heap.size w1 (w1.alloc (Obj.cells #[.slice none 0 0, .slice none 0 0] 58)) w1.heap.size none 0 0 none 0 0 [] [] from
   ⟨(Below.refl _ _).alloc (Nat.le_refl _) _, heap_alloc_new _ _, Nat.le_refl _, World.ownsRow_nil _ _ _ _, World.ownsRow_nil _ _ _ _⟩)
  go_wp2_with fail
  go_loopw [2, 3, 4, 9, 10, 11, 12, 13, 14, 15] (fun _ _ _ iv _ _ _ _ _ _ wr => ∃ (i : Nat) (LA : Option Addr) (lc : Nat) (HA : Option Addr) (hc : Nat) (us ys : List Value), iv = .int .i64 (i : Int) ∧ i ≤ l.length ∧ RCo 58 60 9 w1.heap.size w1 wr w1.heap.size LA i lc HA i hc us ys ∧ Hid (consC 0 l = consC i (l.drop i))) (fun _ _ _ iv _ _ _ _ _ _ _ => l.length - (intOf iv).toNat)
  case atStart => exact ⟨0, _, _, _, _, _, _, rfl, Nat.zero_le _, R0.out, Lib.hid rfl⟩
  case round =>
   clear R0
   obtain ⟨i, LA, lc, HA, hc, us, ys, rfl, hi, hrc, HCI⟩ := hrel
   have RR := Lib.hid hrc
   have hwr := hrc.low.size
   have hwl := heap_lt hrc.box
   have BR := Lib.hid (B1.out.trans (hrc.low.mono B1.out.size))
   by_cases him : i < l.length
   ·have him' : (i : Int) < (l.length : Int) := by omega
    obtain ⟨x, hx⟩ : ∃ x, l[i]? = some x := ⟨_, List.getElem?_eq_getElem him⟩
    have HX := Lib.hid hx
    by_cases h2 : i = 200
    ·subst h2
     have HE := Lib.hid (cons_some (p := 201) (er := 34) HR.out (HCI.out.trans (cons_many hx)) (by decide))
     clear hx hrc
     go_wp2_with fail
     refine bodyPost_ret (v := .tuple #[.pointer none, .int .i64 201, .int .i64 34]) (by simp [results, go_sem]) rfl ?_
     exact ⟨⟨_, _, _, rfl, HE⟩, BR.out⟩
    ·have h200 : ((i : Int) == 200) = false := by simp; omega
     have HI2 := Lib.hid h2
     obtain ⟨g, c, k0, k1, k2, A, m, cc, NA, nn, nc, hv, hgl, d0, d1, d2, d3, d4, ht, hok, _⟩ := SX.out.at_ OW.out hx
     injection hv with hv1 hv2 hv3
     subst hv1; subst hv3
     have z0 := (hrc.low.cell (p := ⟨g, _, none⟩) hgl).trans d0
     have z1 := (hrc.low.cell (p := ⟨g, _, none⟩) hgl).trans d1
     have z2 := (hrc.low.cell (p := ⟨g, _, none⟩) hgl).trans d2
     have z3 := (hrc.low.cell (p := ⟨g, _, none⟩) hgl).trans d3
     have D4 := Lib.hid d4
     have hgr : g < wr.heap.size := by omega
     have HGL := Lib.hid hgl
     have CS := Lib.hid (rsplitx_any hok (fun b hb => by have hb' : b < w1.heap.size := hb; omega) (ht.below hrc.low))
     clear hx hrc h2 d0 d1 d2 d3 d4 ht hok hv2 hgl
     go_wp2_with fail
     refine CS.out.mono ?_
     rintro e w2 ⟨⟨h0, h1, h2, h3, h4, h5, b0, b1, b2, b3, b4, b5, er2, rfl, HSR⟩, hx2⟩
     have B2 := Lib.hid hx2
     have R2 := Lib.hid (RR.out.below hx2 hwr)
     have BX2 := Lib.hid (BR.out.trans (hx2.mono (by have := BR.out.size; omega)))
     have hs2 := Lib.hid hx2.size
     clear hx2 CS z0 z1 z2 z3
     have hsr := HSR.out
     unfold SplR at hsr
     cases hsp : splitT x.1 with
     | error k =>
      rw [hsp] at hsr
      obtain ⟨rfl, hne⟩ := hsr
      have her : (er2 == 0) = false := by simpa using hne
      have HE := Lib.hid (cons_some (p := (i : Int) + 1) (er := er2) HR.out (HCI.out.trans (cons_bad HX.out HI2.out hsp)) hne)
      have hi1 : IntKind.i64.wrap ((i : Int) + 1) = (i : Int) + 1 := Go.IntWalk.i64_in _ ⟨by omega, by omega⟩
      clear hsp hne
      go_wp2_with fail
      refine bodyPost_ret (v := .tuple #[.pointer none, .int .i64 ((i : Int) + 1), .int .i64 er2]) (by simp [results, go_sem]) rfl ?_
      exact ⟨⟨_, _, _, rfl, HE⟩, (BX2.out.alloc BX2.out.size _).alloc (by have := BX2.out.size; simp; omega) _⟩
     | ok ab =>
      obtain ⟨ta, tb⟩ := ab
      rw [hsp] at hsr
      obtain ⟨rfl, hta, htb, _, _⟩ := hsr
      obtain ⟨nm, q, hnm⟩ := split_name hsp
      have HSP := Lib.hid hsp
      have HNM := Lib.hid hnm
      cases ta with
      | nil => exact hta.tin.elim
      | mk hk hn hs hm ha =>
       obtain ⟨e0, e1, e2, e4, _, _, _⟩ := hta.args
       injection e0 with _ e0
       injection e1 with _ e1
       injection e2 with e2
       subst e0; subst e1; subst e2; subst e4
       obtain ⟨hnv, hnl⟩ := name_nameV hnm
       have CN := Lib.hid (fun W => rname_any h0 h1 h2 h3 h4 h5 W)
       rw [hnv] at CN
       have HNL := Lib.hid hnl
       have CR := Lib.hid (fun W => rreserved_any h2 (q : Int) W)
       rw [show resI h2 (q : Int) = resT nm q by unfold resI; rw [hnl]; simp] at CR
       obtain ⟨rv, hrv⟩ : ∃ rv, resT nm q = rv := ⟨_, rfl⟩
       rw [hrv] at CR
       have HRV := Lib.hid hrv
       have M3 := Lib.hid (Mk.alloc2 w2 (.cells #[.int .i64 h0, .int .i64 h1, .string h2, .slice h3 h4 h5] 39 (0, 0)))
       have M4 := Lib.hid (Mk.alloc2 (w2.alloc (.cells #[.int .i64 h0, .int .i64 h1, .string h2, .slice h3 h4 h5] 39 (0, 0))) (.cells #[.int .i64 b0, .int .i64 b1, .string b2, .slice b3 b4 b5] 39 (0, 0)))
       obtain ⟨W4, hW4⟩ : ∃ W4, W4 = (w2.alloc (.cells #[.int .i64 h0, .int .i64 h1, .string h2, .slice h3 h4 h5] 39 (0, 0))).alloc (.cells #[.int .i64 b0, .int .i64 b1, .string b2, .slice b3 b4 b5] 39 (0, 0)) := ⟨_, rfl⟩
       have HW4 := Lib.hid hW4
       have B4 := Lib.hid (show Below w2.heap.size w2 W4 by rw [hW4]; exact M3.out.low.trans (M4.out.low.mono M3.out.low.size))
       have X4 := Lib.hid (show W4.heap[w2.heap.size]? = some (.cells #[.int .i64 h0, .int .i64 h1, .string h2, .slice h3 h4 h5] 39 (0, 0)) ∧ W4.heap[w2.heap.size + 1]? = some (.cells #[.int .i64 b0, .int .i64 b1, .string b2, .slice b3 b4 b5] 39 (0, 0)) by
        rw [hW4]
        exact ⟨(M4.out.low.block _ (by simp)).trans M3.out.new, heap_at _ _ (by simp)⟩)
       clear hta htb hnm hnv hnl hrv hsp HSR hW4 M3 M4
       go_wp2_with fail
       rw [← HW4.out]
       refine (CN.out _).mono ?_
       rintro e w5 ⟨rfl, hx5⟩
       have B5 := Lib.hid (B4.out.trans (hx5.mono B4.out.size))
       have X5 := Lib.hid (And.intro ((hx5.block _ (heap_lt X4.out.1)).trans X4.out.1) ((hx5.block _ (heap_lt X4.out.2)).trans X4.out.2))
       clear hx5 CN B4 X4
       go_wp2_with fail
       refine (CR.out _).mono ?_
       rintro e w6 ⟨rfl, hx6⟩
       have B6 := Lib.hid (B5.out.trans (hx6.mono B5.out.size))
       have X6 := Lib.hid (And.intro ((hx6.block _ (heap_lt X5.out.1)).trans X5.out.1) ((hx6.block _ (heap_lt X5.out.2)).trans X5.out.2))
       have hi1 : IntKind.i64.wrap ((i : Int) + 1) = (i : Int) + 1 := Go.IntWalk.i64_in _ ⟨by omega, by omega⟩
       clear hx6 CR B5 X5
       have BX6 := Lib.hid (BX2.out.trans (B6.out.mono BX2.out.size))
       cases rv with
       | true =>
        have HE := Lib.hid (cons_some (p := (i : Int) + 1) (er := 100) HR.out (HCI.out.trans (cons_res HX.out HI2.out HSP.out HNM.out HRV.out)) (by decide))
        go_wp2_with fail
        refine bodyPost_ret (v := .tuple #[.pointer none, .int .i64 ((i : Int) + 1), .int .i64 100]) (by simp [results, go_sem]) rfl ?_
        exact ⟨⟨_, _, _, rfl, HE⟩, BX6.out⟩
       | false =>
        have HNX := Lib.hid (HCI.out.trans (cons_next HX.out HI2.out HSP.out HNM.out HRV.out))
        have R6 := Lib.hid (R2.out.below B6.out (by have := hs2.out; omega))
        have BB6 := Lib.hid (R6.out.low)
        have hBB6 := BB6.out.size
        have D46 := Lib.hid ((BB6.out.cell (p := ⟨g, _, none⟩) HGL.out).trans D4.out)
        have hlg := HGL.out
        have hgi : i * 5 + 4 < 5 * l.length := by omega
        have hi0 : (0 : Int) ≤ (i : Int) := by omega
        go_wp2_with fail
        refine regionF (fun k u => match k with | 4 => u.heap[w1.heap.size]? = some (.cells #[.slice LA i lc, .slice HA i hc] 58 (0, 0)) | 9 => u.cell? ⟨g, i * 5 + 4, none⟩ = some (.slice NA nn nc) | 11 => u.heap[w2.heap.size]? = some (.cells #[.int .i64 h0, .int .i64 h1, .string h2, .slice h3 h4 h5] 39 (0, 0)) | 12 => u.heap[w2.heap.size + 1]? = some (.cells #[.int .i64 b0, .int .i64 b1, .string b2, .slice b3 b4 b5] 39 (0, 0)) | _ => True) [4, 9, 11, 12] (by kernel_rfl) (⟨R6.out.box, D46.out, X6.out.1, X6.out.2, trivial⟩) (fun hH => ?k16b)
        refine takeP 0 (v := ?k16_1v) (by kernel_rfl) ?k16_1y (by rfl) (fun _ _ _ h => h) (by assumption) ?k16_1r
        case k16_1y => (intro u; simp only [opD]; go_simp; try with_reducible rfl)
        try simp only [opD, Act.put, List.setIfInBounds_toArray, List.set_cons_zero, List.set_cons_succ]
        refine takeP 1 (v := ?k16_2v) (by kernel_rfl) ?k16_2y (by rfl) (fun _ _ _ h => h) (by assumption) ?k16_2r
        case k16_2y => (intro u; simp only [opD]; go_simp; try with_reducible rfl)
        try simp only [opD, Act.put, List.setIfInBounds_toArray, List.set_cons_zero, List.set_cons_succ]
        refine takeP 2 (v := ?k16_3v) (by kernel_rfl) ?k16_3y (by rfl) (fun _ _ _ h => h) (by assumption) ?k16_3r
        case k16_3y => (intro u; simp only [opD]; go_simp; try with_reducible rfl)
        try simp only [opD, Act.put, List.setIfInBounds_toArray, List.set_cons_zero, List.set_cons_succ]
        refine takeP 3 (v := ?k16_4v) (by kernel_rfl) ?k16_4y (by rfl) (fun _ _ _ h => h) (by assumption) ?k16_4r
        case k16_4y => (intro u; simp only [opD]; go_simp; try with_reducible rfl)
        try simp only [opD, Act.put, List.setIfInBounds_toArray, List.set_cons_zero, List.set_cons_succ]
        refine takeL 4 (v := ?k16_5v) (by kernel_rfl) ?k16_5y (by rfl) (fun _ _ _ h => h) (by assumption) ?k16_5r
        case k16_5y => (intro u hF; (try dsimp only at hF); simp only [opD]; have hc0 := cell_of_row u _ 0 _ _ _ hF; have hc1 := cell_of_row u _ 1 _ _ _ hF; have hl := heap_lt hF; clear hF; go_simp; try with_reducible rfl)
        try simp only [opD, Act.put, List.setIfInBounds_toArray, List.set_cons_zero, List.set_cons_succ]
        refine takeP 5 (v := ?k16_6v) (by kernel_rfl) ?k16_6y (by rfl) (fun _ _ _ h => h) (by assumption) ?k16_6r
        case k16_6y => (intro u; simp only [opD]; go_simp; try with_reducible rfl)
        try simp only [opD, Act.put, List.setIfInBounds_toArray, List.set_cons_zero, List.set_cons_succ]
        refine takeP 6 (v := ?k16_7v) (by kernel_rfl) ?k16_7y (by rfl) (fun _ _ _ h => h) (by assumption) ?k16_7r
        case k16_7y => (intro u; simp only [opD]; go_simp; try with_reducible rfl)
        try simp only [opD, Act.put, List.setIfInBounds_toArray, List.set_cons_zero, List.set_cons_succ]
        refine takeP 7 (v := ?k16_8v) (by kernel_rfl) ?k16_8y (by rfl) (fun _ _ _ h => h) (by assumption) ?k16_8r
        case k16_8y => (intro u; simp only [opD]; go_simp; try with_reducible rfl)
        try simp only [opD, Act.put, List.setIfInBounds_toArray, List.set_cons_zero, List.set_cons_succ]
        refine takeP 8 (v := ?k16_9v) (by kernel_rfl) ?k16_9y (by rfl) (fun _ _ _ h => h) (by assumption) ?k16_9r
        case k16_9y => (intro u; simp only [opD]; go_simp; try with_reducible rfl)
        try simp only [opD, Act.put, List.setIfInBounds_toArray, List.set_cons_zero, List.set_cons_succ]
        refine takeL 9 (v := ?k16_10v) (by kernel_rfl) ?k16_10y (by rfl) (fun _ _ _ h => h) (by assumption) ?k16_10r
        case k16_10y => (intro u hF; (try dsimp only at hF); simp only [opD]; have hc : u.cell? ⟨g, i * 5 + 4, none⟩ = some (.slice NA nn nc) := hF; clear hF; go_simp; try with_reducible rfl)
        try simp only [opD, Act.put, List.setIfInBounds_toArray, List.set_cons_zero, List.set_cons_succ]
        refine takeP 10 (v := ?k16_11v) (by kernel_rfl) ?k16_11y (by rfl) (fun _ _ _ h => h) (by assumption) ?k16_11r
        case k16_11y => (intro u; simp only [opD]; go_simp; try with_reducible rfl)
        try simp only [opD, Act.put, List.setIfInBounds_toArray, List.set_cons_zero, List.set_cons_succ]
        refine takeL 11 (v := ?k16_12v) (by kernel_rfl) ?k16_12y (by rfl) (fun _ _ _ h => h) (by assumption) ?k16_12r
        case k16_12y => (intro u hF; (try dsimp only at hF); simp only [opD]; obtain ⟨y0, y1, y2, y3⟩ := box4t hF; have hl := heap_lt hF; clear hF; go_simp; try with_reducible rfl)
        try simp only [opD, Act.put, List.setIfInBounds_toArray, List.set_cons_zero, List.set_cons_succ]
        refine takeL 12 (v := ?k16_13v) (by kernel_rfl) ?k16_13y (by rfl) (fun _ _ _ h => h) (by assumption) ?k16_13r
        case k16_13y => (intro u hF; (try dsimp only at hF); simp only [opD]; obtain ⟨y0, y1, y2, y3⟩ := box4t hF; have hl := heap_lt hF; clear hF; go_simp; try with_reducible rfl)
        try simp only [opD, Act.put, List.setIfInBounds_toArray, List.set_cons_zero, List.set_cons_succ]
        refine takeP 13 (v := ?k16_14v) (by kernel_rfl) ?k16_14y (by rfl) (fun _ _ _ h => h) (by assumption) ?k16_14r
        case k16_14y => (intro u; simp only [opD]; go_simp; try with_reducible rfl)
        try simp only [opD, Act.put, List.setIfInBounds_toArray, List.set_cons_zero, List.set_cons_succ]
        refine readyAll (rs := [14]) (by kernel_rfl) (by simp) ?_
        refine readyF.cons [4] (by kernel_rfl) (fun o hO K hK => ?k16_15a) ?k16_15n
        case k16_15a =>
         (simp only [opD] at hO); subst hO
         go_simp
         refine shutGo hK (fun u => Mk w6 u (.cells #[.int .i64 (nn : Int), .int .i64 h0, .int .i64 h1, .string h2, .slice h3 h4 h5, .int .i64 b0, .int .i64 b1, .string b2, .slice b3 b4 b5] 60 (0, 0))) (Mk.alloc _ _) (fun u hu => ⟨(hu.low.block _ (heap_lt R6.out.box)).trans R6.out.box, trivial⟩) (fun w7 hu hH => ?k16_15r)
         clear hK K
         try simp only [Act.put, List.setIfInBounds_toArray, List.set_cons_zero, List.set_cons_succ]
         have M7 := Lib.hid hu
         have R7 := Lib.hid (R6.out.below hu.low hBB6)
         clear hu
         refine readyAll (rs := [15]) (by kernel_rfl) (by simp) ?_
         refine readyF.cons [] (by kernel_rfl) (fun o hO K hK => ?k16_16a) ?k16_16n
         case k16_16a =>
          (simp only [opD] at hO); subst hO
          refine step_append_lies _ rfl _ _ _ rfl w1.heap.size 60 clI (.agg #[.int .i64 0, .int .i64 0, .int .i64 0, .string ⟨#[]⟩, .slice none 0 0, .int .i64 0, .int .i64 0, .string ⟨#[]⟩, .slice none 0 0]) 9 120 Tryz.underlying56 kk1 kk2 kk3 kk4 rfl (by omega) (.slice LA i lc) i us rfl R7.out.L ⟨w6.heap.size, 0, none⟩ 1 1 [.int .i64 (nn : Int), .int .i64 h0, .int .i64 h1, .string h2, .slice h3 h4 h5, .int .i64 b0, .int .i64 b1, .string b2, .slice b3 b4 b5] rfl rfl (World.news_of_block M7.out.new) ?smL (by omega) (by unfold maxLen; omega) (by omega) (by have := M7.out.low.size; omega) _ rfl ?_
          case smL => (intro u hu; simp only [List.mem_cons, List.not_mem_nil, or_false] at hu; rcases hu with rfl | rfl | rfl | rfl | rfl | rfl | rfl | rfl | rfl <;> rfl)
          intro g1 cap1 w8 hown1 hg1 hat1 hlt1
          refine hK.out _ _ ?k16_16s (fun hH => ?k16_16r)
          case k16_16s => trivial
          clear hK K
          try simp only [Act.put, List.setIfInBounds_toArray, List.set_cons_zero, List.set_cons_succ]
          have R8 := Lib.hid (R7.out.pushL (by decide) (by decide) (by decide) (by have := M7.out.low.size; omega) hown1 hg1 hat1)
          have hb8 := R7.out.box5 R7.out.L (by decide) hg1 hat1
          have X8 := Lib.hid (show w8.heap[w2.heap.size]? = some (.cells #[.int .i64 h0, .int .i64 h1, .string h2, .slice h3 h4 h5] 39 (0, 0)) from (hg1.block _ (by have := heap_lt X6.out.1; have := M7.out.low.size; omega) (row_ne R7.out.L ((M7.out.low.block _ (heap_lt X6.out.1)).trans X6.out.1) (by decide))).trans ((M7.out.low.block _ (heap_lt X6.out.1)).trans X6.out.1))
          have c0 := cell_of_row w8 _ 0 _ _ _ hb8.2
          have f0 : ∀ j, w8.frozen? ⟨w1.heap.size, j, none⟩ = false := fun j => by simp [World.frozen?, hb8.2]
          have l0 := heap_lt hb8.2
          have GB8 := Lib.hid hg1
          have HB8 := Lib.hid hb8.2
          clear hown1 hg1 hat1 hb8
          refine takeP 16 (v := ?k16_17v) (by kernel_rfl) ?k16_17y (by rfl) (fun _ _ _ h => h) (by assumption) ?k16_17r
          case k16_17y => (intro u; simp only [opD]; go_simp; try with_reducible rfl)
          try simp only [opD, Act.put, List.setIfInBounds_toArray, List.set_cons_zero, List.set_cons_succ]
          refine takeP 17 (v := ?k16_18v) (by kernel_rfl) ?k16_18y (by rfl) (fun _ _ _ h => h) (by assumption) ?k16_18r
          case k16_18y => (intro u; simp only [opD]; go_simp; try with_reducible rfl)
          try simp only [opD, Act.put, List.setIfInBounds_toArray, List.set_cons_zero, List.set_cons_succ]
          refine readyAll (rs := [18]) (by kernel_rfl) (by simp) ?_
          refine readyF.cons [] (by kernel_rfl) (fun o hO K hK => ?k16_19a) ?k16_19n
          case k16_19a =>
           (simp only [opD] at hO); subst hO
           go_simp
           refine hK.out _ _ ?k16_19s (fun hH => ?k16_19r)
           case k16_19s => trivial
           clear hK K
           try simp only [Act.put, List.setIfInBounds_toArray, List.set_cons_zero, List.set_cons_succ]
           refine readyDone (by kernel_rfl) ?_
           go_wp2_with fail
           generalize hW9 : w8.setCell ⟨w1.heap.size, 0, none⟩ (.slice (some ⟨g1, 0, none⟩) (i + 1) cap1) = w9 at R8 ⊢
           have X9 := Lib.hid (show w9.heap[w2.heap.size]? = some (.cells #[.int .i64 h0, .int .i64 h1, .string h2, .slice h3 h4 h5] 39 (0, 0)) by rw [← hW9]; exact (Below.heap_setCell _ _ _ _ (by have := hs2.out; show w2.heap.size ≠ w1.heap.size; omega)).trans X8.out)
           clear hW9 c0 f0 l0 GB8 HB8 X8
           have hl9 := heap_lt X9.out
           have hB9 := R8.out.low.size
           have hilt : (i : Int) < (i : Int) + 1 := by omega
           refine regionF (fun k u => match k with | 3 => u.heap[w1.heap.size]? = some (.cells #[.slice (some ⟨g1, 0, none⟩) (i + 1) cap1, .slice HA i hc] 58 (0, 0)) | 4 => u.heap[w2.heap.size]? = some (.cells #[.int .i64 h0, .int .i64 h1, .string h2, .slice h3 h4 h5] 39 (0, 0)) | _ => True) [3, 4] (by kernel_rfl) (⟨R8.out.box, X9.out, trivial⟩) (fun hH => ?k17b)
           refine takeP 0 (v := ?k17_1v) (by kernel_rfl) ?k17_1y (by rfl) (fun _ _ _ h => h) (by assumption) ?k17_1r
           case k17_1y => (intro u; simp only [opD]; go_simp; try with_reducible rfl)
           try simp only [opD, Act.put, List.setIfInBounds_toArray, List.set_cons_zero, List.set_cons_succ]
           refine takeP 1 (v := ?k17_2v) (by kernel_rfl) ?k17_2y (by rfl) (fun _ _ _ h => h) (by assumption) ?k17_2r
           case k17_2y => (intro u; simp only [opD]; go_simp; try with_reducible rfl)
           try simp only [opD, Act.put, List.setIfInBounds_toArray, List.set_cons_zero, List.set_cons_succ]
           refine takeP 2 (v := ?k17_3v) (by kernel_rfl) ?k17_3y (by rfl) (fun _ _ _ h => h) (by assumption) ?k17_3r
           case k17_3y => (intro u; simp only [opD]; go_simp; try with_reducible rfl)
           try simp only [opD, Act.put, List.setIfInBounds_toArray, List.set_cons_zero, List.set_cons_succ]
           refine takeL 3 (v := ?k17_4v) (by kernel_rfl) ?k17_4y (by rfl) (fun _ _ _ h => h) (by assumption) ?k17_4r
           case k17_4y => (intro u hF; (try dsimp only at hF); simp only [opD]; have hc0 := cell_of_row u _ 0 _ _ _ hF; have hc1 := cell_of_row u _ 1 _ _ _ hF; have hl := heap_lt hF; clear hF; go_simp; try with_reducible rfl)
           try simp only [opD, Act.put, List.setIfInBounds_toArray, List.set_cons_zero, List.set_cons_succ]
           refine takeL 4 (v := ?k17_5v) (by kernel_rfl) ?k17_5y (by rfl) (fun _ _ _ h => h) (by assumption) ?k17_5r
           case k17_5y => (intro u hF; (try dsimp only at hF); simp only [opD]; obtain ⟨y0, y1, y2, y3⟩ := box4t hF; have hl := heap_lt hF; clear hF; go_simp; try with_reducible rfl)
           try simp only [opD, Act.put, List.setIfInBounds_toArray, List.set_cons_zero, List.set_cons_succ]
           refine takeP 5 (v := ?k17_6v) (by kernel_rfl) ?k17_6y (by rfl) (fun _ _ _ h => h) (by assumption) ?k17_6r
           case k17_6y => (intro u; simp only [opD]; go_simp; try with_reducible rfl)
           try simp only [opD, Act.put, List.setIfInBounds_toArray, List.set_cons_zero, List.set_cons_succ]
           refine readyAll (rs := [6]) (by kernel_rfl) (by simp) ?_
           refine readyF.cons [3, 4] (by kernel_rfl) (fun o hO K hK => ?k17_7a) ?k17_7n
           case k17_7a =>
            (simp only [opD] at hO); subst hO
            go_simp
            refine shutGo hK (fun u => Mk w9 u (.cells #[.int .i64 0, .int .i64 0, .string ⟨#[]⟩, .slice none 0 0] 39 (0, 0))) (Mk.alloc _ _) (fun u hu => ⟨(hu.low.block _ (heap_lt R8.out.box)).trans R8.out.box, (hu.low.block _ hl9).trans X9.out, trivial⟩) (fun wa hu hH => ?k17_7r)
            clear hK K
            try simp only [Act.put, List.setIfInBounds_toArray, List.set_cons_zero, List.set_cons_succ]
            have Ma := Lib.hid hu
            have Ra := Lib.hid (R8.out.below hu.low hB9)
            clear hu
            refine readyAll (rs := [7]) (by kernel_rfl) (by simp) ?_
            refine readyF.cons [] (by kernel_rfl) (fun o hO K hK => ?k17_8a) ?k17_8n
            case k17_8a =>
             (simp only [opD] at hO); subst hO
             refine step_append_lies _ rfl _ _ _ rfl w1.heap.size 39 itemI (.agg #[.int .i64 0, .int .i64 0, .string ⟨#[]⟩, .slice none 0 0]) 4 56 Tryz.underlying35 jj1 jj2 jj3 jj4 rfl (by omega) (.slice HA i hc) i ys rfl Ra.out.H ⟨w9.heap.size, 0, none⟩ 1 1 [.int .i64 0, .int .i64 0, .string ⟨#[]⟩, .slice none 0 0] rfl rfl (World.news_of_block Ma.out.new) ?smH (by omega) (by unfold maxLen; omega) (by omega) (by have := Ma.out.low.size; omega) _ rfl ?_
             case smH => (intro u hu; simp only [List.mem_cons, List.not_mem_nil, or_false] at hu; rcases hu with rfl | rfl | rfl | rfl <;> rfl)
             intro g2 cap2 wb hown2 hg2 hat2 hlt2
             refine hK.out _ _ ?k17_8s (fun hH => ?k17_8r)
             case k17_8s => trivial
             clear hK K
             try simp only [Act.put, List.setIfInBounds_toArray, List.set_cons_zero, List.set_cons_succ]
             have HO := Lib.hid hown2
             have HG := Lib.hid hg2
             have HA2 := Lib.hid hat2
             have hb8 := Ra.out.box5 Ra.out.H (by decide) hg2 hat2
             obtain ⟨c0, c1, c2, c3, fz, _⟩ := rowH_last hown2
             have cb := cell_of_row wb _ 1 _ _ _ hb8.2
             have fb : ∀ j, wb.frozen? ⟨w1.heap.size, j, none⟩ = false := fun j => by simp [World.frozen?, hb8.2]
             have lb := heap_lt hb8.2
             have n1 := hb8.1
             have n2 := Ne.symm hb8.1
             clear hown2 hg2 hat2 hb8
             refine takeP 8 (v := ?k17_9v) (by kernel_rfl) ?k17_9y (by rfl) (fun _ _ _ h => h) (by assumption) ?k17_9r
             case k17_9y => (intro u; simp only [opD]; go_simp; try with_reducible rfl)
             try simp only [opD, Act.put, List.setIfInBounds_toArray, List.set_cons_zero, List.set_cons_succ]
             refine takeP 10 (v := ?k17_10v) (by kernel_rfl) ?k17_10y (by rfl) (fun _ _ _ h => h) (by assumption) ?k17_10r
             case k17_10y => (intro u; simp only [opD]; go_simp; try with_reducible rfl)
             try simp only [opD, Act.put, List.setIfInBounds_toArray, List.set_cons_zero, List.set_cons_succ]
             refine takeP 11 (v := ?k17_11v) (by kernel_rfl) ?k17_11y (by rfl) (fun _ _ _ h => h) (by assumption) ?k17_11r
             case k17_11y => (intro u; simp only [opD]; go_simp; try with_reducible rfl)
             try simp only [opD, Act.put, List.setIfInBounds_toArray, List.set_cons_zero, List.set_cons_succ]
             refine readyAll (rs := [9, 12]) (by kernel_rfl) (by simp) ?_
             refine readyF.cons [] (by kernel_rfl) (fun o hO K hK => ?k17_12a) ?k17_12n
             case k17_12a =>
              (simp only [opD] at hO); subst hO
              go_simp
              refine hK.out _ _ ?k17_12s (fun hH => ?k17_12r)
              case k17_12s => trivial
              clear hK K
              try simp only [Act.put, List.setIfInBounds_toArray, List.set_cons_zero, List.set_cons_succ]
              refine readyAll (rs := [12]) (by kernel_rfl) (by simp) ?_
              refine readyF.cons [] (by kernel_rfl) (fun o hO K hK => ?k17_13a) ?k17_13n
              case k17_13a =>
               (simp only [opD] at hO); subst hO
               go_simp
               refine hK.out _ _ ?k17_13s (fun hH => ?k17_13r)
               case k17_13s => trivial
               clear hK K
               try simp only [Act.put, List.setIfInBounds_toArray, List.set_cons_zero, List.set_cons_succ]
               refine readyDone (by kernel_rfl) ?_
               go_wp2_with fail
               have R9 := Lib.hid (Ra.out.pushH (zs := [.int .i64 0, .int .i64 0, .string ⟨#[]⟩, .slice none 0 0]) (us := [.int .i64 h0, .int .i64 h1, .string h2, .slice h3 h4 h5]) (by decide) (by decide) (by decide) (by have := Ma.out.low.size; omega) rfl rfl HO.out HG.out HA2.out (.inl rfl))
               go_roundw
               case rel => exact ⟨i + 1, _, _, _, _, _, _, by go_num, by omega, R9.out, HNX⟩
               case measure => simp [intOf] <;> omega
              case k17_13n =>
               exact readyF.nil
             case k17_12n =>
              refine readyF.cons [] (by kernel_rfl) (fun o hO K hK => ?k17_14a) ?k17_14n
              case k17_14a =>
               (simp only [opD] at hO); subst hO
               go_simp
               refine hK.out _ _ ?k17_14s (fun hH => ?k17_14r)
               case k17_14s => trivial
               clear hK K
               try simp only [Act.put, List.setIfInBounds_toArray, List.set_cons_zero, List.set_cons_succ]
               refine readyAll (rs := [9]) (by kernel_rfl) (by simp) ?_
               refine readyF.cons [] (by kernel_rfl) (fun o hO K hK => ?k17_15a) ?k17_15n
               case k17_15a =>
                (simp only [opD] at hO); subst hO
                go_simp
                refine hK.out _ _ ?k17_15s (fun hH => ?k17_15r)
                case k17_15s => trivial
                clear hK K
                try simp only [Act.put, List.setIfInBounds_toArray, List.set_cons_zero, List.set_cons_succ]
                refine readyDone (by kernel_rfl) ?_
                go_wp2_with fail
                have R9 := Lib.hid (Ra.out.pushH (zs := [.int .i64 0, .int .i64 0, .string ⟨#[]⟩, .slice none 0 0]) (us := [.int .i64 h0, .int .i64 h1, .string h2, .slice h3 h4 h5]) (by decide) (by decide) (by decide) (by have := Ma.out.low.size; omega) rfl rfl HO.out HG.out HA2.out (.inr rfl))
                go_roundw
                case rel => exact ⟨i + 1, _, _, _, _, _, _, by go_num, by omega, R9.out, HNX⟩
                case measure => simp [intOf] <;> omega
               case k17_15n =>
                exact readyF.nil
              case k17_14n =>
               exact readyF.nil
            case k17_8n =>
             exact readyF.nil
           case k17_7n =>
            exact readyF.nil
          case k16_19n =>
           exact readyF.nil
         case k16_16n =>
          exact readyF.nil
        case k16_15n =>
         exact readyF.nil
   ·obtain rfl : i = l.length := by omega
    have HE := Lib.hid (cons_none HR.out (HCI.out.trans (by rw [List.drop_of_length_le (Nat.le_refl _)]; rfl)) w1.heap.size)
    clear hrc
    go_wp2_with fail
    refine bodyPost_ret (v := .tuple #[.pointer (some ⟨w1.heap.size, 0, none⟩), .int .i64 0, .int .i64 0]) (by simp [results, go_sem]) rfl ?_
    exact ⟨⟨_, _, _, rfl, HE⟩, BR.out⟩
end Go.Proofs.YtibcpdmeigdgpaaGreatDoor
