/- The program's parser: a row of terms. The program's parser: inside brackets. The iterator slices.Backward over terms: its contract. -/
import Derived.Test.YtibcpdmeigdgpaaGreatDoorKHm
import Derived.Test.YtibcpdmeigdgpaaGreatDoorKGn
import Derived.Test.YtibcpdmeigdgpaaGreatDoorKRd9
import Derived.RangeFuncNested
import Derived.RangeFuncBound
import Derived.RangeFuncCalls
import Derived.RangeFuncLeaves
import Derived.Shelf.Abstract
import Derived.Shelf.RegionOpen
import Derived.WalkKit
import Derived.OwnWalkIn
import Derived.TacticsInMore
import Derived.LoopNIn
import Derived.LoopIn
namespace Go.Proofs.YtibcpdmeigdgpaaGreatDoor
open Go.RowKit
def RelT (w : World) (i : Nat) : T → Nat → Value → World → Prop := fun t j v w' => TP w' (fun b => w.heap.size ≤ b) t v ∧ t.good ∧ i + t.nodes ≤ j
def PTermC (c : Rdc) (D : Int) (tm : Int → Nat → List ByteArray → PR T) : Prop := ∀ (most : Int) (w : World) (i : Nat) (ns : List ByteArray), Pd w c i ns → Ev c w →
 Calls Tryz.prog 36 #[.pointer (some ⟨c.R, 0, none⟩), .int .i64 most, .int .i64 D] w fun e w' => PQ c w i (tm most i ns) (RelT w i) e w'
theorem Pd.keepT {w w' : World} {c : Rdc} {i : Nat} {ns : List ByteArray} (h : Pd w c i ns) (hk : ∀ (b : Nat) (cs : Array Value) (t : TypeId) (m : Nat × Nat), w.heap[b]? = some (.cells cs t m) → t ≠ 39 → w'.heap[b]? = w.heap[b]?) : Pd w' c i ns := by
 obtain ⟨ht, hf, lv, nv, nn, hr⟩ := h
 refine ⟨ht.keep fun b cs hb => hk b _ _ _ hb (by decide), hf, lv, nv, nn, (hk _ _ _ _ hr.blk (by decide)).trans hr.blk, hr.lok, own_keep hr.own fun g hg => ?_, hr.up, hr.few⟩
 rcases hr.own.2 with ⟨hv, _⟩ | ⟨g', cap, cur, hv, _, hh, _⟩
 ·rw [hv] at hg; simp [Value.ownBlock] at hg
 ·rw [hv] at hg
  simp [Value.ownBlock] at hg
  subst hg
  exact hk _ _ _ _ hh (by decide)
def leftOf (c : Rdc) (w : World) : Nat := match w.cell? ⟨c.R, 1, none⟩ with | some (.slice _ n _) => n | _ => 0
theorem Pd.left_eq {w : World} {c : Rdc} {i : Nat} {ns : List ByteArray} (h : Pd w c i ns) : leftOf c w = c.tn - i := by
 obtain ⟨_, _, lv, nv, nn, hr⟩ := h
 obtain ⟨A, cc, rfl, _, _⟩ := hr.lok
 have := hr.cells.2.1
 simp [leftOf, this]
theorem Pd.few {w : World} {c : Rdc} {i : Nat} {ns : List ByteArray} (h : Pd w c i ns) : i ≤ c.tn ∧ c.tn ≤ 1000 := ⟨h.up, h.1.few⟩
structure PRowI (c : Rdc) (w : World) (i : Nat) (v : Value) (wr : World) (j : Nat) (n g cap : Nat) (cs : Array Value) (ts : Nat → T) (ns : List ByteArray) : Prop where
 hv : v = .slice (some ⟨g, 0, none⟩) n cap
 hn : 0 < n
 hcap : n ≤ cap
 hmax : cap ≤ maxLen
 hsz : cs.size = cap * 4
 blk : wr.heap[g]? = some (.cells cs 39 (0, 0))
 hg : w.heap.size ≤ g
 tp : Cells4 wr (fun b => w.heap.size ≤ b ∧ b ≠ g) cs n ts
 rd : Pd wr c j ns
 fr : Frp c w wr
 lo : i ≤ j
 few : n ≤ 1 + (j - i)
 ok : (∀ k, k < n → (ts k).good) ∧ i + (sumTo n fun k => (ts k).nodes) + (n - 1) ≤ j
theorem PRowI.own {c : Rdc} {w wr : World} {i j n g cap : Nat} {v : Value} {cs : Array Value} {ts : Nat → T} {ns : List ByteArray} (h : PRowI c w i v wr j n g cap cs ts ns) : wr.ownsRow w.heap.size 39 4 v n (cs.toList.take (n * 4)) :=
 ⟨by have := h.hsz; have := h.hcap; simp; omega, .inr ⟨g, cap, cs, h.hv, h.hg, h.blk, h.hcap, h.hmax, h.hsz, rfl⟩⟩
theorem PRowI.stand {c : Rdc} {w wr w1 : World} {i j n g cap j1 : Nat} {v : Value} {cs : Array Value} {ts : Nat → T} {ns : List ByteArray} (h : PRowI c w i v wr j n g cap cs ts ns) {ns1 : List ByteArray} (hf : Frp c wr w1) (hr : Pd w1 c j1 ns1) (hj : j ≤ j1) :
 PRowI c w i v w1 j1 n g cap cs ts ns1 :=
 ⟨h.hv, h.hn, h.hcap, h.hmax, h.hsz, hf.boxp h.rd h.blk (by decide) (by decide), h.hg, fun k hk => by
  obtain ⟨v0, v1, v2, v3, h0, h1, h2, h3, ht⟩ := h.tp k hk
  exact ⟨v0, v1, v2, v3, h0, h1, h2, h3, ht.frp hf h.rd⟩, hr, h.fr.trans hf, Nat.le_trans h.lo hj, by have := h.few; omega, h.ok.1, Nat.le_trans h.ok.2 hj⟩
theorem PRowI.push {c : Rdc} {w wr w1 w2 : World} {i j n g cap g' cap' : Nat} {v : Value} {cs : Array Value} {ts : Nat → T} {t : T} {a0 a1 a2 a3 : Value} {ns : List ByteArray} (h : PRowI c w i v wr j n g cap cs ts ns)
 (hb : Below wr.heap.size wr w1) (ht : TP wr (fun b => w.heap.size ≤ b ∧ b ≠ g) t (.agg #[a0, a1, a2, a3])) (hok : t.good ∧ i + (sumTo n fun k => (ts k).nodes) + n + t.nodes ≤ j) (hfew : n + 1 ≤ 1 + (j - i))
 (hown : w2.ownsRow w.heap.size 39 4 (.slice (some ⟨g', 0, none⟩) (n + 1) cap') (n + 1) (cs.toList.take (n * 4) ++ [a0, a1, a2, a3])) (hg : w1.grownBy w2 v.ownBlock) (hat : v.ownBlock = some g' ∨ g' = w1.heap.size) (hB : c.B ≤ w.heap.size) :
 ∃ cs', PRowI c w i (.slice (some ⟨g', 0, none⟩) (n + 1) cap') w2 j (n + 1) g' cap' cs' (snocT n ts t) ns := by
 have hv := h.hv
 subst hv
 rcases hown.2 with ⟨he, _⟩ | ⟨g2, cap2, cs', he, hgg, hh, hnc, hmx, hs2, htk⟩
 ·cases he
 injection he with he _ hcc
 injection he with he
 injection he with he _ _
 subst he hcc
 have hgw : g < wr.heap.size := heap_lt h.blk
 have hgw1 : g < w1.heap.size := Nat.lt_of_lt_of_le hgw hb.size
 have hg' : g' = g ∨ g' = w1.heap.size := by
  rcases hat with hat | hat
  ·left; simpa [Value.ownBlock] using hat.symm
  ·exact .inr hat
 have hsz := h.hsz
 have hcap := h.hcap
 have keep : ∀ (b : Nat), b < w1.heap.size → b ≠ g → w2.heap[b]? = w1.heap[b]? := fun b hb1 hb2 => hg.block b hb1 (by simp [Value.ownBlock]; exact hb2)
 have cell : ∀ k, k < n * 4 → cs'[k]? = cs[k]? := fun k hk => by
  have h1 : (cs'.toList.take ((n + 1) * 4))[k]? = (cs.toList.take (n * 4) ++ [a0, a1, a2, a3])[k]? := by rw [htk]
  rw [List.getElem?_take, if_pos (by omega), List.getElem?_append_left (by simp; omega), List.getElem?_take, if_pos hk] at h1
  rwa [Array.getElem?_toList, Array.getElem?_toList] at h1
 have celln : ∀ k, k < 4 → cs'[4 * n + k]? = [a0, a1, a2, a3][k]? := fun k hk => by
  have h1 : (cs'.toList.take ((n + 1) * 4))[4 * n + k]? = (cs.toList.take (n * 4) ++ [a0, a1, a2, a3])[4 * n + k]? := by rw [htk]
  have hl : (cs.toList.take (n * 4)).length = 4 * n := by simp; omega
  rw [List.getElem?_take, if_pos (by omega), List.getElem?_append_right (by omega), hl] at h1
  rw [Array.getElem?_toList] at h1
  rw [h1]
  congr 1
  omega
 have hblk1 : w1.heap[g]? = some (.cells cs 39 (0, 0)) := (hb.block g hgw).trans h.blk
 have move : ∀ {t : T} {x : Value}, TP wr (fun b => w.heap.size ≤ b ∧ b ≠ g) t x → TP w2 (fun b => w.heap.size ≤ b ∧ b ≠ g') t x := fun ht => ht.keep fun b' cs1 f1 hS hb' => by
  have hl := heap_lt hb'
  have hl1 := Nat.lt_of_lt_of_le hl hb.size
  refine ⟨((keep b' hl1 hS.2).trans (hb.block b' hl)).trans hb', hS.1, ?_⟩
  rcases hg' with e | e
  ·rw [e]; exact hS.2
  ·omega
 refine ⟨cs', rfl, by omega, hnc, hmx, hs2, hh, hgg, fun k hk => ?_, ?_, ?_, h.lo, hfew, ?_⟩
 ·by_cases hkn : k = n
  ·subst hkn
   have hs : snocT k ts t k = t := by simp [snocT]
   rw [hs]
   exact ⟨a0, a1, a2, a3, celln 0 (by omega), celln 1 (by omega), celln 2 (by omega), celln 3 (by omega), move ht⟩
  ·have hs : snocT n ts t k = ts k := by simp [snocT, hkn]
   obtain ⟨v0, v1, v2, v3, h0, h1, h2, h3, ht'⟩ := h.tp k (by omega)
   rw [hs]
   exact ⟨v0, v1, v2, v3, (cell _ (by omega)).trans h0, (cell _ (by omega)).trans h1, (cell _ (by omega)).trans h2, (cell _ (by omega)).trans h3, move ht'⟩
 ·refine (h.rd.below hb).keepT fun b' cs1 t1 m1 hb' ht1 => keep b' (heap_lt hb') ?_
  rintro rfl
  rw [hblk1] at hb'
  injection hb' with hb'
  injection hb' with _ hb'
  exact ht1 hb'.symm
 ·have hf1 := h.fr.trans (Frp.of_below hb h.rd.base)
  have hgl := h.hg
  refine ⟨hf1.low.grown hg (Nat.le_trans hB hf1.size) (by simp [Value.ownBlock]; omega), fun b' cs1 t1 m1 hb' hR ht1 => ?_⟩
  have hl := heap_lt hb'
  exact (keep b' (Nat.lt_of_lt_of_le hl hf1.size) (by omega)).trans (hf1.keep b' cs1 t1 m1 hb' hR ht1)
 ·obtain ⟨h1, h2⟩ := h.ok
  obtain ⟨hg1, hs1⟩ := hok
  refine ⟨fun k hk => ?_, ?_⟩
  ·by_cases hkn : k = n
   ·subst hkn; simpa [snocT] using hg1
   ·simpa [snocT, hkn] using h1 k (by omega)
  ·have e1 : (sumTo n fun k => (snocT n ts t k).nodes) = sumTo n fun k => (ts k).nodes := sumTo_congr _ _ _ fun k hk => by simp [snocT, show k ≠ n by omega]
   have e2 : (snocT n ts t n).nodes = t.nodes := by simp [snocT]
   simp only [sumTo, e1, e2]
   omega
def RelRow (w : World) (i : Nat) : List T → Nat → Value → World → Prop := fun l j v w' => ∃ g cs f, v = .slice (some ⟨g, 0, none⟩) l.length l.length ∧ 0 < l.length ∧ l.length ≤ 1 + (j - i) ∧ w.heap.size ≤ g ∧ w'.heap[g]? = some (.cells cs 39 f) ∧
 Cells4 w' (fun b => w.heap.size ≤ b ∧ b ≠ g) cs l.length (fun k => l.getD k .nil) ∧ (∀ k, k < l.length → (l.getD k .nil).good) ∧ i + (sumTo l.length fun k => (l.getD k .nil).nodes) + (l.length - 1) ≤ j
set_option maxRecDepth 100000 in
theorem clip_any {g n cap : Nat} (hn : 0 < n) (hc : n ≤ cap) (w : World) : Calls Tryz.prog 117 #[.slice (some ⟨g, 0, none⟩) n cap] w fun e w' => e = .returned (.slice (some ⟨g, 0, none⟩) n n) ∧ w' = w := by
 go_enter Tryz.func117, Tryz.ntmps117
 go_wp2_with fail
 go_ret
 exact ⟨rfl, rfl⟩
set_option maxRecDepth 100000 in
set_option maxHeartbeats 4000000 in
theorem prow_any {c : Rdc} (D : Nat) {tm : Int → Nat → List ByteArray → PR T} (IH : PTermC c ((D : Int) + 1) tm) (hD : D ≤ 64) (w : World) (i : Nat) (ns : List ByteArray) (h : Pd w c i ns) (hev : Ev c w) :
 Calls Tryz.prog 103 #[.pointer (some ⟨c.R, 0, none⟩), .int .i64 (D : Int)] w fun e w' => PQ c w i (rowP c.tk c.s.size tm i ns) (RelRow w i) e w' := by
 have hB := h.base
 have H := Lib.hid h
 have HE := Lib.hid hev
 clear h hev
 obtain ⟨item, hi1, hi2, hi3, hi4⟩ := elTerm.hi
 obtain ⟨RS, hRS⟩ : ∃ RS, rowP c.tk c.s.size tm i ns = RS := ⟨_, rfl⟩
 rw [hRS]
 go_enter Tryz.func103, Tryz.ntmps103
 go_wp2_with fail
 refine (IH 999 _ _ _ H.out HE.out).mono ?_
 rintro e w1 hq
 cases hres : tm 999 i ns with
 | error pk =>
  obtain ⟨p, k⟩ := pk
  obtain ⟨f1, rfl⟩ := hq.err hres
  have HR := Lib.hid (show RS = .error (p, k) by rw [← hRS]; unfold rowP; rw [hres]; rfl)
  clear hq hres hRS
  go_wp2_with fail
  refine ⟨rfl, ?_⟩
  rw [HR.out]
  exact ⟨f1, rfl⟩
 | ok y =>
  obtain ⟨t, j, ns1⟩ := y
  obtain ⟨f1, v, rfl, h1, hj, ht, hgood, hnod⟩ := hq.ok hres
  obtain ⟨k0, k1, k2, A0, m0, c0, rfl⟩ := ht.agg
  have R0 : PRowI c w i (.slice (some ⟨w1.heap.size, 0, none⟩) 1 1) (w1.alloc (Obj.cells #[.int .i64 k0, .int .i64 k1, .string k2, .slice A0 m0 c0] 39)) j 1 w1.heap.size 1 #[.int .i64 k0, .int .i64 k1, .string k2, .slice A0 m0 c0] (fun k => [t].getD k .nil) ns1 :=
   ⟨rfl, by omega, by omega, by unfold maxLen; omega, rfl, heap_alloc_new _ _, f1.size, fun k hk => by
    obtain rfl : k = 0 := by omega
    exact ⟨_, _, _, _, rfl, rfl, rfl, rfl, (show TP w1 _ ([t].getD 0 .nil) _ from ht).keep fun b cs f hS hb => ⟨(Below.heap_alloc _ _ _ (heap_lt hb)).trans hb, hS, by have := heap_lt hb; omega⟩⟩, h1.alloc _, f1.newalloc hB _, hj, by omega, fun k hk => by
     obtain rfl : k = 0 := by omega
     exact hgood, by
     show i + (0 + t.nodes) + (1 - 1) ≤ j
     omega⟩
  have RR := Lib.hid R0
  have KK := Lib.hid (show ∃ f, c.tn ≤ j + f ∧ RS = rowC c.tk c.s.size tm f [t] j ns1 from ⟨c.tk.length, by have := H.out.1.len; omega, by rw [← hRS]; unfold rowP; rw [hres]; rfl⟩)
  clear R0 h1 f1 ht hgood hnod hq hres hRS
  go_wp2_with fail
  go_loopw [5] (fun v wr => ∃ (j : Nat) (l : List T) (g cap : Nat) (cs : Array Value) (ns' : List ByteArray), PRowI c w i v wr j l.length g cap cs (fun k => l.getD k .nil) ns' ∧ Hid (∃ f, c.tn ≤ j + f ∧ RS = rowC c.tk c.s.size tm f l j ns')) (fun _ wr => leftOf c wr)
  case atStart => exact ⟨_, [t], _, _, _, _, RR.out, KK⟩
  case round =>
   clear RR KK
   obtain ⟨j, l, g, cap, cs, ns', hr, hk⟩ := hrel
   obtain ⟨n, hn⟩ : ∃ n, n = l.length := ⟨_, rfl⟩
   obtain ⟨ts, hts⟩ : ∃ ts, ts = fun k => l.getD k .nil := ⟨_, rfl⟩
   rw [← hn, ← hts] at hr
   have HNL := Lib.hid hn
   have HTS := Lib.hid hts
   clear hn hts
   obtain rfl := hr.hv
   have R := Lib.hid hr
   have hfew := hr.few
   have hlo := hr.lo
   obtain ⟨hup, htn⟩ := hr.rd.few
   have hn0 := hr.hn
   have hcap := hr.hcap
   clear hr
   go_wp2_with fail
   refine (pmark_any _ _ R.out.rd).mono ?_
   rintro e w2 ⟨b, rfl, hM, h2, f2, hlt⟩
   cases b with
   | false =>
    replace h2 : Pd w2 c j ns' := h2
    have R2 := Lib.hid (R.out.stand f2 h2 (Nat.le_refl _))
    have HR := Lib.hid (show RS = .ok (l, j, ns') by
     obtain ⟨f, _, hK⟩ := hk.out
     rw [hK]; exact rowC_stop hM)
    clear h2 f2 hlt hM
    go_wp2_with fail
    refine (clip_any hn0 hcap _).mono ?_
    rintro e w3 ⟨rfl, rfl⟩
    go_wp2_with fail
    go_ret
    rw [HR.out]
    refine ⟨R2.out.fr, _, rfl, R2.out.rd, R2.out.lo, g, cs, (0, 0), by rw [← HNL.out]; rfl, by rw [← HNL.out]; exact hn0, by rw [← HNL.out]; exact hfew, R2.out.hg, R2.out.blk, ?_⟩
    rw [← HNL.out, ← HTS.out]
    exact ⟨R2.out.tp, by rw [HTS.out] at R2; exact R2.out.ok.1, by rw [HTS.out] at R2; exact R2.out.ok.2⟩
   | true =>
    replace h2 : Pd w2 c (j + 1) ns' := h2
    have R3 := Lib.hid (R.out.stand f2 h2 (Nat.le_succ _))
    have E3 := Lib.hid (HE.out.fr R3.out.fr)
    have hjlt := hlt rfl
    have HM := Lib.hid hM
    clear h2 f2 hlt hM
    go_wp2_with fail
    refine (IH 999 _ _ _ R3.out.rd E3.out).mono ?_
    rintro e w4 hq
    cases hres : tm 999 (j + 1) ns' with
    | error pk =>
     obtain ⟨p, k⟩ := pk
     obtain ⟨f4, rfl⟩ := hq.err hres
     have HR := Lib.hid (show RS = .error (p, k) by
      obtain ⟨f, hf, hK⟩ := hk.out
      obtain ⟨f, rfl⟩ : ∃ k, f = k + 1 := ⟨f - 1, by omega⟩
      rw [hK, rowC_go HM.out, hres]; rfl)
     clear hq hres
     go_wp2_with fail
     refine ⟨rfl, ?_⟩
     rw [HR.out]
     exact ⟨R3.out.fr.trans f4, rfl⟩
    | ok y =>
     obtain ⟨t, j4, ns4⟩ := y
     obtain ⟨f4, v1, rfl, h4, hj4, ht, hgood, hnod⟩ := hq.ok hres
     have KK := Lib.hid (show ∃ f, c.tn ≤ j4 + f ∧ RS = rowC c.tk c.s.size tm f (l ++ [t]) j4 ns4 by
      obtain ⟨f, hf, hK⟩ := hk.out
      obtain ⟨f, rfl⟩ : ∃ k, f = k + 1 := ⟨f - 1, by omega⟩
      exact ⟨f, by omega, by rw [hK, rowC_go HM.out, hres]; rfl⟩)
     obtain ⟨k0, k1, k2, A0, m0, c0, rfl⟩ := ht.agg
     have R4 := Lib.hid (R3.out.stand f4 h4 hj4)
     have HT := Lib.hid (ht.keep (S' := fun b => w.heap.size ≤ b ∧ b ≠ g) (w' := w4) fun b cs' f' hS hb => ⟨hb, by
      have h5 := R3.out.fr.size
      have h6 := heap_lt R3.out.blk
      omega⟩)
     have HOK := Lib.hid (show t.good ∧ i + (sumTo n fun k => (ts k).nodes) + n + t.nodes ≤ j4 from ⟨hgood, by have := R.out.ok.2; omega⟩)
     have hsz4 := R4.out.fr.size
     clear h4 f4 ht hgood hnod hq hres
     go_wp2_with (at_builtin; go_must (refine wpList_append_lies _ rfl _ _ _ rfl w.heap.size 39 item (.agg #[.int .i64 0, .int .i64 0, .string ⟨#[]⟩, .slice none 0 0]) 4 56 Tryz.underlying35 hi1 hi2 hi3 hi4 rfl (by omega) _ n _ rfl (own_below R4.out.own ((Below.refl _ _).alloc (Nat.le_refl _) _)) ⟨w4.heap.size, 0, none⟩ 1 1 [.int .i64 k0, .int .i64 k1, .string k2, .slice A0 m0 c0] rfl rfl ?_ ?_ (by omega) (by unfold maxLen; omega) (by omega) (by simp; omega) _ rfl ?_))
     ·intro k u hu
      rw [show (⟨w4.heap.size, 0, none⟩ : Addr).add k = ⟨w4.heap.size, k, none⟩ by unfold Addr.add; split <;> simp_all]
      rw [cell_of_row _ _ k _ _ _ (heap_alloc_new _ _)]
      simpa using hu
     ·intro u hu
      simp only [List.mem_cons, List.not_mem_nil, or_false] at hu
      rcases hu with rfl | rfl | rfl | rfl <;> rfl
     intro g1 cap1 w5 hown1 hg1 hat _
     obtain ⟨cs', R5⟩ := PRowI.push R4.out ((Below.refl _ _).alloc (Nat.le_refl _) _) HT.out HOK.out (by omega) hown1 hg1 (hat.imp id fun e => e.trans (by simp)) hB
     have RR := Lib.hid R5
     clear R5 hown1 hg1 hat
     go_wp2_with fail
     go_roundw
     case rel => exact ⟨_, l ++ [t], _, _, _, _, by rw [← snoc_get, List.length_append, ← HNL.out, ← HTS.out]; exact RR.out, KK⟩
     case measure => rw [RR.out.rd.left_eq, R.out.rd.left_eq]; omega
end Go.Proofs.YtibcpdmeigdgpaaGreatDoor
namespace Go.Proofs.YtibcpdmeigdgpaaGreatDoor
open Go.RowKit
theorem Pd.putT {c : Rdc} {w : World} {i : Nat} {ns : List ByteArray} (h : Pd w c i ns) {g : Nat} {m : Nat × Nat} {u0 u1 u2 u3 : Value} (hb : w.heap[g]? = some (.cells #[u0, u1, u2, u3] 39 m)) (x0 x1 x2 x3 : Value) :
 Pd ((((w.setCell ⟨g, 0, none⟩ x0).setCell ⟨g, 1, none⟩ x1).setCell ⟨g, 2, none⟩ x2).setCell ⟨g, 3, none⟩ x3) c i ns := by
 have h1 := h.set_far hb 0 x0 (by decide) (by decide) (by decide)
 have b1 := blk_set hb 0 x0
 have h2 := h1.set_far b1 1 x1 (by decide) (by decide) (by decide)
 have b2 := blk_set b1 1 x1
 have h3 := h2.set_far b2 2 x2 (by decide) (by decide) (by decide)
 have b3 := blk_set b2 2 x2
 exact h3.set_far b3 3 x3 (by decide) (by decide) (by decide)
theorem Frp.put {c : Rdc} {w0 w : World} (h : Frp c w0 w) {g : Nat} (hg : w0.heap.size ≤ g) (hB : c.B ≤ w0.heap.size) {t : TypeId} {m : Nat × Nat} {u0 u1 u2 u3 : Value} (hb : w.heap[g]? = some (.cells #[u0, u1, u2, u3] t m)) (x0 x1 x2 x3 : Value) :
 Frp c w0 ((((w.setCell ⟨g, 0, none⟩ x0).setCell ⟨g, 1, none⟩ x1).setCell ⟨g, 2, none⟩ x2).setCell ⟨g, 3, none⟩ x3) := by
 obtain ⟨_, _, p2, p3⟩ := box_put4 hb x0 x1 x2 x3 rfl
 exact ⟨p3 _ _ (by omega) h.low, fun b cs t' m' hb' hR ht => (p2 b (by have := heap_lt hb'; omega)).trans (h.keep b cs t' m' hb' hR ht)⟩
theorem ret_boxp {c : Rdc} {w wk : World} {i j : Nat} {ns' : List ByteArray} {res : PR T} {t : T} {g : Nat} {m : Nat × Nat} {u0 u1 u2 u3 x0 x1 x2 x3 : Value} (H : Pd wk c j ns') (F : Frp c w wk) (hB : c.B ≤ w.heap.size)
 (hbx : wk.heap[g]? = some (.cells #[u0, u1, u2, u3] 39 m)) (hg : w.heap.size ≤ g) (ht : TP wk (fun b => w.heap.size ≤ b ∧ b ≠ g) t (.agg #[x0, x1, x2, x3])) (hj : i ≤ j) (hgd : t.good) (hnd : i + t.nodes ≤ j) (hres : res = .ok (t, j, ns')) :
 PQ c w i res (RelT w i) (.returned (.agg #[x0, x1, x2, x3])) ((((wk.setCell ⟨g, 0, none⟩ x0).setCell ⟨g, 1, none⟩ x1).setCell ⟨g, 2, none⟩ x2).setCell ⟨g, 3, none⟩ x3) := by
 subst hres
 exact ⟨F.put hg hB hbx _ _ _ _, _, rfl, H.putT hbx _ _ _ _, hj, (tp_put hbx _ _ _ _ ht fun _ hb => hb.2).more fun _ hb => hb.1, hgd, hnd⟩
set_option maxRecDepth 100000 in
set_option maxHeartbeats 4000000 in
theorem pinside_any {c : Rdc} (D : Nat) {tm : Int → Nat → List ByteArray → PR T} (IH : PTermC c ((D : Int) + 1) tm) (hD : D ≤ 64) (m : ByteArray) (w : World) (i : Nat) (ns : List ByteArray) (h : Pd w c i ns) (hev : Ev c w) :
 Calls Tryz.prog 85 #[.pointer (some ⟨c.R, 0, none⟩), .int .i64 (D : Int), .string m] w fun e w' => PQ c w i ((tm 1200 i ns).andThen fun r j ns1 => mustN c.tk c.s.size m r j ns1) (RelT w i) e w' := by
 have hB := h.base
 have H := Lib.hid h
 have HE := Lib.hid hev
 clear h hev
 obtain ⟨RS, hRS⟩ : ∃ RS, ((tm 1200 i ns).andThen fun r j ns1 => mustN c.tk c.s.size m r j ns1) = RS := ⟨_, rfl⟩
 rw [hRS]
 have H1 := Lib.hid (H.out.alloc (Obj.cells #[.int .i64 0, .int .i64 0, .string ⟨#[]⟩, .slice none 0 0] 39))
 have B1 := Lib.hid (belP (Below.refl w.heap.size w) (Obj.cells #[.int .i64 0, .int .i64 0, .string ⟨#[]⟩, .slice none 0 0] 39))
 have F1 := Lib.hid (Frp.of_below B1.out hB)
 have x0 := Lib.hid (heap_alloc_new w (Obj.cells #[.int .i64 0, .int .i64 0, .string ⟨#[]⟩, .slice none 0 0] 39))
 go_enter Tryz.func85, Tryz.ntmps85
 go_wp2_with fail
 refine (IH 1200 _ _ _ H1.out (HE.out.fr F1.out)).mono ?_
 rintro e w1 hq
 cases hres : tm 1200 i ns with
 | error pk =>
  obtain ⟨p, k⟩ := pk
  obtain ⟨f1, rfl⟩ := hq.err hres
  have HR := Lib.hid (show RS = .error (p, k) by rw [← hRS, hres]; rfl)
  clear hq hres hRS
  go_wp2_with fail
  refine ⟨rfl, ?_⟩
  rw [HR.out]
  exact ⟨F1.out.trans f1, rfl⟩
 | ok y =>
  obtain ⟨t, j, ns1⟩ := y
  obtain ⟨f1, v, rfl, h1, hj, ht, hgood, hnod⟩ := hq.ok hres
  obtain ⟨k0, k1, k2, A0, m0, c0, rfl⟩ := ht.agg
  have HR := Lib.hid (show RS = mustN c.tk c.s.size m t j ns1 by rw [← hRS, hres]; rfl)
  have H2 := Lib.hid (h1.alloc (Obj.cells #[.int .i64 k0, .int .i64 k1, .string k2, .slice A0 m0 c0] 39))
  have F2 := Lib.hid ((F1.out.trans f1).newalloc hB (Obj.cells #[.int .i64 k0, .int .i64 k1, .string k2, .slice A0 m0 c0] 39))
  have y0 := Lib.hid (heap_alloc_new w1 (Obj.cells #[.int .i64 k0, .int .i64 k1, .string k2, .slice A0 m0 c0] 39))
  have hs1 := f1.size
  have x1 := Lib.hid (((Below.heap_alloc w1 (Obj.cells #[.int .i64 k0, .int .i64 k1, .string k2, .slice A0 m0 c0] 39) _ (Nat.lt_of_lt_of_le (heap_lt x0.out) hs1))).trans (f1.boxp H1.out x0.out (by decide) (by decide)))
  have hin : ∀ b, (w.alloc (Obj.cells #[.int .i64 0, .int .i64 0, .string ⟨#[]⟩, .slice none 0 0] 39)).heap.size ≤ b → w.heap.size ≤ b ∧ b ≠ w.heap.size := fun b hS => by
   simp at hS
   exact ⟨by omega, by omega⟩
  have T2 := Lib.hid (ht.keep (S' := fun b => w.heap.size ≤ b ∧ b ≠ w.heap.size) (w' := w1.alloc (Obj.cells #[.int .i64 k0, .int .i64 k1, .string k2, .slice A0 m0 c0] 39)) fun b cs f hS hb => ⟨(Below.heap_alloc _ _ _ (heap_lt hb)).trans hb, hin b hS⟩)
  clear hin
  have HJ := Lib.hid (And.intro hj (And.intro hgood hnod))
  clear hq hres hRS h1 f1 ht hj hgood hnod
  go_wp2_with fail
  refine (pmust_any m _ H2.out).mono ?_
  rintro e w2 hq
  cases hres : mustN c.tk c.s.size m () j ns1 with
  | error pk =>
   obtain ⟨p, k⟩ := pk
   obtain ⟨f2, rfl⟩ := hq.err hres
   have HR2 := Lib.hid (show RS = .error (p, k) by
    rw [HR.out]
    unfold mustN at hres ⊢
    split at hres
    ·cases hres
    ·rename_i h9
     rw [if_neg h9]
     injection hres with hres
     rw [hres])
   clear hq hres
   go_wp2_with fail
   refine ⟨rfl, ?_⟩
   rw [HR2.out]
   exact ⟨F2.out.trans f2, rfl⟩
  | ok y =>
   obtain ⟨_, j2, ns2⟩ := y
   obtain ⟨f2, v, rfl, h2, hj2, rfl, hji⟩ := hq.ok hres
   have HR2 := Lib.hid (show RS = .ok (t, j2, ns2) by
    rw [HR.out]
    unfold mustN at hres ⊢
    split at hres
    ·rename_i h9
     rw [if_pos h9]
     injection hres with hres
     injection hres with _ hres
     rw [hres]
    ·cases hres)
   have x2 := Lib.hid (f2.boxp H2.out x1.out (by decide) (by decide))
   have y2 := Lib.hid (f2.boxp H2.out y0.out (by decide) (by decide))
   have T3 := Lib.hid (T2.out.frp f2 H2.out)
   have H3 := Lib.hid h2
   have F3 := Lib.hid (F2.out.trans f2)
   have hsz2 := f2.size
   have hsz1 : w1.heap.size < w2.heap.size := by simp at hsz2; omega
   have hsz0 : w.heap.size < w2.heap.size := by simp at hs1; omega
   obtain ⟨a0, a1, a2, a3⟩ := box4t x2.out
   obtain ⟨b0, b1, b2, b3⟩ := box4t y2.out
   have af : ∀ j, w2.frozen? ⟨w.heap.size, j, none⟩ = false := fun j => by simp [World.frozen?, x2.out]
   clear hq hres h2 f2 hsz2 hs1
   go_wp2_with fail
   obtain ⟨p0, p1, p2, p3⟩ := box4t (box_put4 x2.out (.int .i64 k0) (.int .i64 k1) (.string k2) (.slice A0 m0 c0) rfl).1
   refine bodyPost_ret (v := .agg #[.int .i64 k0, .int .i64 k1, .string k2, .slice A0 m0 c0]) (by simp [results, go_sem, p0, p1, p2, p3]) rfl ?_
   exact ret_boxp H3.out F3.out hB x2.out (Nat.le_refl _) T3.out (Nat.le_trans HJ.out.1 hj2) HJ.out.2.1 (by have := HJ.out.2.2; omega) HR2.out
end Go.Proofs.YtibcpdmeigdgpaaGreatDoor
namespace Go.Proofs.YtibcpdmeigdgpaaGreatDoor
open Go.RowKit Go.Shelf
attribute [local go_sem] Oper.semAt_some
def Kb1 (n1 rb : Nat) (W W' : World) : Prop := ∀ b, b < n1 → b ≠ rb → W'.heap[b]? = W.heap[b]?
theorem Kb1.refl (n1 rb : Nat) (W : World) : Kb1 n1 rb W W := fun _ _ _ => rfl
theorem Kb1.trans {n1 rb : Nat} {A B C : World} (h : Kb1 n1 rb A B) (k : Kb1 n1 rb B C) : Kb1 n1 rb A C := fun b h1 h2 => (k b h1 h2).trans (h b h1 h2)
def valAt (cs : Array Value) (i : Nat) : Value := .agg #[cs.getD (4 * i) undef, cs.getD (4 * i + 1) undef, cs.getD (4 * i + 2) undef, cs.getD (4 * i + 3) undef]
def encB {nn : Nat} (cs : Array Value) (x : Fin nn) : Array Value := #[.int .i64 (x.1 : Int), valAt cs x.1]
def downL : Nat → List Nat
 | 0 => []
 | i + 1 => i :: downL i
def cameL (nn i : Nat) : List Nat := (downL nn).take (nn - i)
theorem down_len : ∀ n, (downL n).length = n
 | 0 => rfl
 | n + 1 => by simp [downL, down_len n]
theorem down_get : ∀ (n k : Nat), k < n → (downL n)[k]? = some (n - 1 - k)
 | 0, k, h => absurd h (by omega)
 | n + 1, 0, _ => by simp [downL]
 | n + 1, k + 1, h => by
  rw [downL, List.getElem?_cons_succ, down_get n k (by omega)]
  congr 1
  omega
theorem came_step {nn i : Nat} (h : i < nn) : cameL nn i = cameL nn (i + 1) ++ [i] := by
 unfold cameL
 rw [show nn - i = (nn - (i + 1)) + 1 by omega, List.take_add_one, down_get nn (nn - (i + 1)) (by omega)]
 congr 2
 simp
 omega
theorem came_end (nn : Nat) : cameL nn 0 = downL nn := by
 unfold cameL
 rw [List.take_of_length_le]
 rw [down_len]; omega
theorem came_start (nn : Nat) : cameL nn nn = [] := by simp [cameL]
set_option maxRecDepth 100000 in
set_option maxHeartbeats 4000000 in
theorem back1_in (n l sb g nn cc n1 rb : Nat) (cs : Array Value) (hn : 1 ≤ n) (hnn : nn ≤ 1000) (J Jx : List (Fin nn) → World → Prop) (W : World) (hsb : sb < n1 ∧ sb ≠ rb) (hgb : g < n1 ∧ g ≠ rb) {fs fg : Nat × Nat}
 (hb : W.heap[sb]? = some (.cells #[.slice (some ⟨g, 0, none⟩) nn cc] 35 fs)) (hc : W.heap[g]? = some (.cells cs 39 fg)) (hcs : ∀ k, k < nn * 4 → ∃ v, cs[k]? = some v)
 (hY : ∀ pre x W1, J pre W1 → pre.length < nn → YieldAt Fence.wide (n - 1) Tryz.prog l (encB cs x) W1 fun e W' =>
   (e = .returned (.bool true) ∧ J (pre ++ [x]) W' ∧ Kb1 n1 rb W1 W') ∨ (e = .returned (.bool false) ∧ Jx (pre ++ [x]) W')) (h0 : J [] W) :
 CallsIn Fence.wide n Tryz.prog 118 #[.func (.yield l) #[] #[], .pointer (some ⟨sb, 0, none⟩)] W fun e W' => (∃ v, e = .returned v) ∧
  ((∃ ys, ys.map Fin.val = downL nn ∧ J ys W') ∨ (∃ pre, True ∧ Jx pre W')) := by
 have s0 := cell_of_row W sb 0 _ _ _ hb
 refine callsIn_of_wp Tryz.func118 rfl trivial ?_ rfl
 simp only [Tryz.ntmps118, List.size_toArray, List.length_cons, List.length_nil, Nat.reduceAdd, Nat.reduceSub, Array.replicate_succ, Array.replicate_zero, List.push_toArray, List.append_toArray, List.nil_append, List.cons_append]
 gi_wp2
 gi_loopw [3] (fun iv wr => ∃ (i : Nat) (pre : List (Fin nn)), iv = .int .i64 ((i : Int) - 1) ∧ i ≤ nn ∧ Hid (pre.map Fin.val = cameL nn i) ∧ Hid (wr.heap[sb]? = some (.cells #[.slice (some ⟨g, 0, none⟩) nn cc] 35 fs)) ∧ Hid (wr.heap[g]? = some (.cells cs 39 fg)) ∧ Hid (J pre wr)) (fun iv _ => (intOf iv + 1).toNat)
 case atStart => exact ⟨nn, [], by simp, Nat.le_refl _, Lib.hid (by rw [came_start]; rfl), Lib.hid hb, Lib.hid hc, Lib.hid h0⟩
 case round =>
  obtain ⟨i, pre, rfl, hi, hx, hbt, hct, hJs⟩ := hrel
  cases i with
  | zero =>
   gi_wp2
   go_end0
   exact ⟨⟨_, rfl⟩, .inl ⟨pre, by rw [hx.out, came_end], hJs.out⟩⟩
  | succ i =>
   rw [show (((i + 1 : Nat) : Int) - 1) = (i : Int) by omega]
   have hlen : pre.length < nn := by
    have := congrArg List.length hx.out
    rw [List.length_map, cameL, List.length_take, down_len] at this
    omega
   obtain ⟨x, hxv⟩ : ∃ x : Fin nn, x.1 = i := ⟨⟨i, by omega⟩, rfl⟩
   obtain ⟨v0, h0'⟩ := hcs (4 * i) (by omega)
   obtain ⟨v1, h1'⟩ := hcs (4 * i + 1) (by omega)
   obtain ⟨v2, h2'⟩ := hcs (4 * i + 2) (by omega)
   obtain ⟨v3, h3'⟩ := hcs (4 * i + 3) (by omega)
   have hval : valAt cs i = .agg #[v0, v1, v2, v3] := by
    unfold valAt
    simp only [Array.getD_eq_getD_getElem?, h0', h1', h2', h3', Option.getD_some]
   have hr := fun (k : Nat) => cell_of_row wr g k _ _ _ hct.out
   have c0 : wr.cell? ⟨g, i * 4, none⟩ = some v0 := by rw [hr, Nat.mul_comm]; exact h0'
   have c1 : wr.cell? ⟨g, i * 4 + 1, none⟩ = some v1 := by rw [hr, Nat.mul_comm]; exact h1'
   have c2 : wr.cell? ⟨g, i * 4 + 2, none⟩ = some v2 := by rw [hr, Nat.mul_comm]; exact h2'
   have c3 : wr.cell? ⟨g, i * 4 + 3, none⟩ = some v3 := by rw [hr, Nat.mul_comm]; exact h3'
   have hs0 := cell_of_row wr sb 0 _ _ _ hbt.out
   have hin : (i : Int) < (nn : Int) := by omega
   obtain ⟨fn, tmps, assign, body, hy, hR⟩ := hY pre x wr hJs.out hlen
   unfold encB at hy
   rw [hxv, hval] at hy
   have HX := Lib.hid (show (pre ++ [x]).map Fin.val = cameL nn i by rw [List.map_append, hx.out, List.map_singleton, hxv]; exact (came_step (by omega)).symm)
   clear hxv hval hr h0' h1' h2' h3'
   gi_wp2
   refine hR.mono ?_
   rintro e W3 (⟨rfl, hJ3, hk3⟩ | ⟨rfl, hJx3⟩)
   ·have hb3 := Lib.hid ((hk3 sb hsb.1 hsb.2).trans hbt.out)
    have hc3 := Lib.hid ((hk3 g hgb.1 hgb.2).trans hct.out)
    have HJ := Lib.hid hJ3
    clear hk3 hJ3
    gi_wp2
    go_roundw
    case rel => exact ⟨i, pre ++ [x], by first | rfl | go_num, by omega, HX, hb3, hc3, HJ⟩
    case measure => simp [intOf]
   ·gi_wp2
    refine bodyPost_ret (results_none rfl _ _ _) rfl ?_
    exact ⟨⟨_, rfl⟩, .inr ⟨pre ++ [x], trivial, hJx3⟩⟩
theorem back_stops (n sb g nn cc n1 rb : Nat) (cs : Array Value) (w : World) (hn : 1 ≤ n) (hnn : nn ≤ 1000) (hsb : sb < n1 ∧ sb ≠ rb) (hgb : g < n1 ∧ g ≠ rb) {fs fg : Nat × Nat}
 (hb : w.heap[sb]? = some (.cells #[.slice (some ⟨g, 0, none⟩) nn cc] 35 fs)) (hc : w.heap[g]? = some (.cells cs 39 fg)) (hcs : ∀ k, k < nn * 4 → ∃ v, cs[k]? = some v) :
 SeqStopsK Fence.wide n Tryz.prog 118 #[.pointer (some ⟨sb, 0, none⟩)] (encB (nn := nn) cs) (Kb1 n1 rb) (fun ys => ys.map Fin.val = downL nn) (fun _ => True) nn w := fun l J Jx W hW _ _ hY h0 =>
 back1_in n l sb g nn cc n1 rb cs hn hnn J Jx W hsb hgb ((hW.block sb (heap_lt hb)).trans hb) ((hW.block g (heap_lt hc)).trans hc) hcs hY h0
theorem backward_any (v : Value) (A : Option Addr) (nn cc : Nat) (hv : v = .slice A nn cc) (w : World) : Calls Tryz.prog 107 #[v] w fun e w' => e = .returned (.func (.func 118) #[] #[.pointer (some ⟨w.heap.size, 0, none⟩)]) ∧ w' = w.alloc (.cells #[v] 35) := by
 subst hv
 go_enter Tryz.func107, Tryz.ntmps107
 go_wp2
 go_ret
 exact ⟨rfl, rfl⟩
end Go.Proofs.YtibcpdmeigdgpaaGreatDoor
