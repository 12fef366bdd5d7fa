/- The program's parser: a row of terms. -/
import Derived.Test.YtlogcealmiokkaaGreatDoorKRq7
import Derived.Test.YtlogcealmiokkaaGreatDoorKGn
namespace Go.Proofs.YtlogcealmiokkaaGreatDoor
open Go.RowKit
def RelT (w : World) (i : Nat) : T → Nat → Value → World → Prop := fun t j v w' => TP w' (fun b => w.heap.size ≤ b) t v ∧ t.good ∧ i + t.nodes ≤ j
def PTermC (c : Rdc) (D : Int) (tm : Int → Nat → List ByteArray → PR T) : Prop := ∀ (most : Int) (w : World) (i : Nat) (ns : List ByteArray), Pd w c i ns → Ev c w →
 Calls Tryz.prog 29 #[.pointer (some ⟨c.R, 0, none⟩), .int .i64 most, .int .i64 D] w fun e w' => PQ c w i (tm most i ns) (RelT w i) e w'
theorem Pd.keepT {w w' : World} {c : Rdc} {i : Nat} {ns : List ByteArray} (h : Pd w c i ns) (hk : ∀ (b : Nat) (cs : Array Value) (t : TypeId) (m : Nat × Nat), w.heap[b]? = some (.cells cs t m) → t ≠ 31 → w'.heap[b]? = w.heap[b]?) : Pd w' c i ns := by
 obtain ⟨ht, hf, lv, nv, nn, hr⟩ := h
 refine ⟨ht.keep fun b cs hb => hk b _ _ _ hb (by decide), hf, lv, nv, nn, (hk _ _ _ _ hr.blk (by decide)).trans hr.blk, hr.lok, own_keep hr.own fun g hg => ?_, hr.up, hr.few⟩
 rcases hr.own.2 with ⟨hv, _⟩ | ⟨g', cap, cur, hv, _, hh, _⟩
 ·rw [hv] at hg; simp [Value.ownBlock] at hg
 ·rw [hv] at hg
  simp [Value.ownBlock] at hg
  subst hg
  exact hk _ _ _ _ hh (by decide)
def leftOf (c : Rdc) (w : World) : Nat := match w.cell? ⟨c.R, 1, none⟩ with | some (.slice _ n _) => n | _ => 0
theorem Pd.left_eq {w : World} {c : Rdc} {i : Nat} {ns : List ByteArray} (h : Pd w c i ns) : leftOf c w = c.tn - i := by
 obtain ⟨_, _, lv, nv, nn, hr⟩ := h
 obtain ⟨A, cc, rfl, _, _⟩ := hr.lok
 have := hr.cells.2.1
 simp [leftOf, this]
theorem Pd.few {w : World} {c : Rdc} {i : Nat} {ns : List ByteArray} (h : Pd w c i ns) : i ≤ c.tn ∧ c.tn ≤ 1000 := ⟨h.up, h.1.few⟩
structure PRowI (c : Rdc) (w : World) (i : Nat) (v : Value) (wr : World) (j : Nat) (n g cap : Nat) (cs : Array Value) (ts : Nat → T) (ns : List ByteArray) : Prop where
 hv : v = .slice (some ⟨g, 0, none⟩) n cap
 hn : 0 < n
 hcap : n ≤ cap
 hmax : cap ≤ maxLen
 hsz : cs.size = cap * 4
 blk : wr.heap[g]? = some (.cells cs 31 (0, 0))
 hg : w.heap.size ≤ g
 tp : Cells4 wr (fun b => w.heap.size ≤ b ∧ b ≠ g) cs n ts
 rd : Pd wr c j ns
 fr : Frp c w wr
 lo : i ≤ j
 few : n ≤ 1 + (j - i)
 ok : (∀ k, k < n → (ts k).good) ∧ i + (sumTo n fun k => (ts k).nodes) + (n - 1) ≤ j
theorem PRowI.own {c : Rdc} {w wr : World} {i j n g cap : Nat} {v : Value} {cs : Array Value} {ts : Nat → T} {ns : List ByteArray} (h : PRowI c w i v wr j n g cap cs ts ns) : wr.ownsRow w.heap.size 31 4 v n (cs.toList.take (n * 4)) :=
 ⟨by have := h.hsz; have := h.hcap; simp; omega, .inr ⟨g, cap, cs, h.hv, h.hg, h.blk, h.hcap, h.hmax, h.hsz, rfl⟩⟩
theorem PRowI.stand {c : Rdc} {w wr w1 : World} {i j n g cap j1 : Nat} {v : Value} {cs : Array Value} {ts : Nat → T} {ns : List ByteArray} (h : PRowI c w i v wr j n g cap cs ts ns) {ns1 : List ByteArray} (hf : Frp c wr w1) (hr : Pd w1 c j1 ns1) (hj : j ≤ j1) :
 PRowI c w i v w1 j1 n g cap cs ts ns1 :=
 ⟨h.hv, h.hn, h.hcap, h.hmax, h.hsz, hf.boxp h.rd h.blk (by decide) (by decide), h.hg, fun k hk => by
  obtain ⟨v0, v1, v2, v3, h0, h1, h2, h3, ht⟩ := h.tp k hk
  exact ⟨v0, v1, v2, v3, h0, h1, h2, h3, ht.frp hf h.rd⟩, hr, h.fr.trans hf, Nat.le_trans h.lo hj, by have := h.few; omega, h.ok.1, Nat.le_trans h.ok.2 hj⟩
theorem PRowI.push {c : Rdc} {w wr w1 w2 : World} {i j n g cap g' cap' : Nat} {v : Value} {cs : Array Value} {ts : Nat → T} {t : T} {a0 a1 a2 a3 : Value} {ns : List ByteArray} (h : PRowI c w i v wr j n g cap cs ts ns)
 (hb : Below wr.heap.size wr w1) (ht : TP wr (fun b => w.heap.size ≤ b ∧ b ≠ g) t (.agg #[a0, a1, a2, a3])) (hok : t.good ∧ i + (sumTo n fun k => (ts k).nodes) + n + t.nodes ≤ j) (hfew : n + 1 ≤ 1 + (j - i))
 (hown : w2.ownsRow w.heap.size 31 4 (.slice (some ⟨g', 0, none⟩) (n + 1) cap') (n + 1) (cs.toList.take (n * 4) ++ [a0, a1, a2, a3])) (hg : w1.grownBy w2 v.ownBlock) (hat : v.ownBlock = some g' ∨ g' = w1.heap.size) (hB : c.B ≤ w.heap.size) :
 ∃ cs', PRowI c w i (.slice (some ⟨g', 0, none⟩) (n + 1) cap') w2 j (n + 1) g' cap' cs' (snocT n ts t) ns := by
 have hv := h.hv
 subst hv
 rcases hown.2 with ⟨he, _⟩ | ⟨g2, cap2, cs', he, hgg, hh, hnc, hmx, hs2, htk⟩
 ·cases he
 injection he with he _ hcc
 injection he with he
 injection he with he _ _
 subst he hcc
 have hgw : g < wr.heap.size := heap_lt h.blk
 have hgw1 : g < w1.heap.size := Nat.lt_of_lt_of_le hgw hb.size
 have hg' : g' = g ∨ g' = w1.heap.size := by
  rcases hat with hat | hat
  ·left; simpa [Value.ownBlock] using hat.symm
  ·exact .inr hat
 have hsz := h.hsz
 have hcap := h.hcap
 have keep : ∀ (b : Nat), b < w1.heap.size → b ≠ g → w2.heap[b]? = w1.heap[b]? := fun b hb1 hb2 => hg.block b hb1 (by simp [Value.ownBlock]; exact hb2)
 have cell : ∀ k, k < n * 4 → cs'[k]? = cs[k]? := fun k hk => by
  have h1 : (cs'.toList.take ((n + 1) * 4))[k]? = (cs.toList.take (n * 4) ++ [a0, a1, a2, a3])[k]? := by rw [htk]
  rw [List.getElem?_take, if_pos (by omega), List.getElem?_append_left (by simp; omega), List.getElem?_take, if_pos hk] at h1
  rwa [Array.getElem?_toList, Array.getElem?_toList] at h1
 have celln : ∀ k, k < 4 → cs'[4 * n + k]? = [a0, a1, a2, a3][k]? := fun k hk => by
  have h1 : (cs'.toList.take ((n + 1) * 4))[4 * n + k]? = (cs.toList.take (n * 4) ++ [a0, a1, a2, a3])[4 * n + k]? := by rw [htk]
  have hl : (cs.toList.take (n * 4)).length = 4 * n := by simp; omega
  rw [List.getElem?_take, if_pos (by omega), List.getElem?_append_right (by omega), hl] at h1
  rw [Array.getElem?_toList] at h1
  rw [h1]
  congr 1
  omega
 have hblk1 : w1.heap[g]? = some (.cells cs 31 (0, 0)) := (hb.block g hgw).trans h.blk
 have move : ∀ {t : T} {x : Value}, TP wr (fun b => w.heap.size ≤ b ∧ b ≠ g) t x → TP w2 (fun b => w.heap.size ≤ b ∧ b ≠ g') t x := fun ht => ht.keep fun b' cs1 f1 hS hb' => by
  have hl := heap_lt hb'
  have hl1 := Nat.lt_of_lt_of_le hl hb.size
  refine ⟨((keep b' hl1 hS.2).trans (hb.block b' hl)).trans hb', hS.1, ?_⟩
  rcases hg' with e | e
  ·rw [e]; exact hS.2
  ·omega
 refine ⟨cs', rfl, by omega, hnc, hmx, hs2, hh, hgg, fun k hk => ?_, ?_, ?_, h.lo, hfew, ?_⟩
 ·by_cases hkn : k = n
  ·subst hkn
   have hs : snocT k ts t k = t := by simp [snocT]
   rw [hs]
   exact ⟨a0, a1, a2, a3, celln 0 (by omega), celln 1 (by omega), celln 2 (by omega), celln 3 (by omega), move ht⟩
  ·have hs : snocT n ts t k = ts k := by simp [snocT, hkn]
   obtain ⟨v0, v1, v2, v3, h0, h1, h2, h3, ht'⟩ := h.tp k (by omega)
   rw [hs]
   exact ⟨v0, v1, v2, v3, (cell _ (by omega)).trans h0, (cell _ (by omega)).trans h1, (cell _ (by omega)).trans h2, (cell _ (by omega)).trans h3, move ht'⟩
 ·refine (h.rd.below hb).keepT fun b' cs1 t1 m1 hb' ht1 => keep b' (heap_lt hb') ?_
  rintro rfl
  rw [hblk1] at hb'
  injection hb' with hb'
  injection hb' with _ hb'
  exact ht1 hb'.symm
 ·have hf1 := h.fr.trans (Frp.of_below hb h.rd.base)
  have hgl := h.hg
  refine ⟨hf1.low.grown hg (Nat.le_trans hB hf1.size) (by simp [Value.ownBlock]; omega), fun b' cs1 t1 m1 hb' hR ht1 => ?_⟩
  have hl := heap_lt hb'
  exact (keep b' (Nat.lt_of_lt_of_le hl hf1.size) (by omega)).trans (hf1.keep b' cs1 t1 m1 hb' hR ht1)
 ·obtain ⟨h1, h2⟩ := h.ok
  obtain ⟨hg1, hs1⟩ := hok
  refine ⟨fun k hk => ?_, ?_⟩
  ·by_cases hkn : k = n
   ·subst hkn; simpa [snocT] using hg1
   ·simpa [snocT, hkn] using h1 k (by omega)
  ·have e1 : (sumTo n fun k => (snocT n ts t k).nodes) = sumTo n fun k => (ts k).nodes := sumTo_congr _ _ _ fun k hk => by simp [snocT, show k ≠ n by omega]
   have e2 : (snocT n ts t n).nodes = t.nodes := by simp [snocT]
   simp only [sumTo, e1, e2]
   omega
def RelRow (w : World) (i : Nat) : List T → Nat → Value → World → Prop := fun l j v w' => ∃ g cs f, v = .slice (some ⟨g, 0, none⟩) l.length l.length ∧ 0 < l.length ∧ l.length ≤ 1 + (j - i) ∧ w.heap.size ≤ g ∧ w'.heap[g]? = some (.cells cs 31 f) ∧
 Cells4 w' (fun b => w.heap.size ≤ b ∧ b ≠ g) cs l.length (fun k => l.getD k .nil) ∧ (∀ k, k < l.length → (l.getD k .nil).good) ∧ i + (sumTo l.length fun k => (l.getD k .nil).nodes) + (l.length - 1) ≤ j
set_option maxRecDepth 100000 in
theorem clip_any {g n cap : Nat} (hn : 0 < n) (hc : n ≤ cap) (w : World) : Calls Tryz.prog 105 #[.slice (some ⟨g, 0, none⟩) n cap] w fun e w' => e = .returned (.slice (some ⟨g, 0, none⟩) n n) ∧ w' = w := by
 go_enter Tryz.func105, Tryz.ntmps105
 go_wp2_with fail
 go_ret
 exact ⟨rfl, rfl⟩
set_option maxRecDepth 100000 in
set_option maxHeartbeats 4000000 in
theorem prow_any {c : Rdc} (D : Nat) {tm : Int → Nat → List ByteArray → PR T} (IH : PTermC c ((D : Int) + 1) tm) (hD : D ≤ 64) (w : World) (i : Nat) (ns : List ByteArray) (h : Pd w c i ns) (hev : Ev c w) :
 Calls Tryz.prog 92 #[.pointer (some ⟨c.R, 0, none⟩), .int .i64 (D : Int)] w fun e w' => PQ c w i (rowP c.tk c.s.size tm i ns) (RelRow w i) e w' := by
 have hB := h.base
 have H := Lib.hid h
 have HE := Lib.hid hev
 clear h hev
 obtain ⟨item, hi1, hi2, hi3, hi4⟩ := elTerm.hi
 obtain ⟨RS, hRS⟩ : ∃ RS, rowP c.tk c.s.size tm i ns = RS := ⟨_, rfl⟩
 rw [hRS]
 go_enter Tryz.func92, Tryz.ntmps92
 go_wp2_with fail
 refine (IH 999 _ _ _ H.out HE.out).mono ?_
 rintro e w1 hq
 cases hres : tm 999 i ns with
 | error pk =>
  obtain ⟨p, k⟩ := pk
  obtain ⟨f1, rfl⟩ := hq.err hres
  have HR := Lib.hid (show RS = .error (p, k) by rw [← hRS]; unfold rowP; rw [hres]; rfl)
  clear hq hres hRS
  go_wp2_with fail
  refine ⟨rfl, ?_⟩
  rw [HR.out]
  exact ⟨f1, rfl⟩
 | ok y =>
  obtain ⟨t, j, ns1⟩ := y
  obtain ⟨f1, v, rfl, h1, hj, ht, hgood, hnod⟩ := hq.ok hres
  obtain ⟨k0, k1, k2, A0, m0, c0, rfl⟩ := ht.agg
  have R0 : PRowI c w i (.slice (some ⟨w1.heap.size, 0, none⟩) 1 1) (w1.alloc (Obj.cells #[.int .i64 k0, .int .i64 k1, .string k2, .slice A0 m0 c0] 31)) j 1 w1.heap.size 1 #[.int .i64 k0, .int .i64 k1, .string k2, .slice A0 m0 c0] (fun k => [t].getD k .nil) ns1 :=
   ⟨rfl, by omega, by omega, by unfold maxLen; omega, rfl, heap_alloc_new _ _, f1.size, fun k hk => by
    obtain rfl : k = 0 := by omega
    exact ⟨_, _, _, _, rfl, rfl, rfl, rfl, (show TP w1 _ ([t].getD 0 .nil) _ from ht).keep fun b cs f hS hb => ⟨(Below.heap_alloc _ _ _ (heap_lt hb)).trans hb, hS, by have := heap_lt hb; omega⟩⟩, h1.alloc _, f1.newalloc hB _, hj, by omega, fun k hk => by
     obtain rfl : k = 0 := by omega
     exact hgood, by
     show i + (0 + t.nodes) + (1 - 1) ≤ j
     omega⟩
  have RR := Lib.hid R0
  have KK := Lib.hid (show ∃ f, c.tn ≤ j + f ∧ RS = rowC c.tk c.s.size tm f [t] j ns1 from ⟨c.tk.length, by have := H.out.1.len; omega, by rw [← hRS]; unfold rowP; rw [hres]; rfl⟩)
  clear R0 h1 f1 ht hgood hnod hq hres hRS
  go_wp2_with fail
  go_loopw [5] (fun v wr => ∃ (j : Nat) (l : List T) (g cap : Nat) (cs : Array Value) (ns' : List ByteArray), PRowI c w i v wr j l.length g cap cs (fun k => l.getD k .nil) ns' ∧ Hid (∃ f, c.tn ≤ j + f ∧ RS = rowC c.tk c.s.size tm f l j ns')) (fun _ wr => leftOf c wr)
  case atStart => exact ⟨_, [t], _, _, _, _, RR.out, KK⟩
  case round =>
   clear RR KK
   obtain ⟨j, l, g, cap, cs, ns', hr, hk⟩ := hrel
   obtain ⟨n, hn⟩ : ∃ n, n = l.length := ⟨_, rfl⟩
   obtain ⟨ts, hts⟩ : ∃ ts, ts = fun k => l.getD k .nil := ⟨_, rfl⟩
   rw [← hn, ← hts] at hr
   have HNL := Lib.hid hn
   have HTS := Lib.hid hts
   clear hn hts
   obtain rfl := hr.hv
   have R := Lib.hid hr
   have hfew := hr.few
   have hlo := hr.lo
   obtain ⟨hup, htn⟩ := hr.rd.few
   have hn0 := hr.hn
   have hcap := hr.hcap
   clear hr
   go_wp2_with fail
   refine (pmark_any _ _ R.out.rd).mono ?_
   rintro e w2 ⟨b, rfl, hM, h2, f2, hlt⟩
   cases b with
   | false =>
    replace h2 : Pd w2 c j ns' := h2
    have R2 := Lib.hid (R.out.stand f2 h2 (Nat.le_refl _))
    have HR := Lib.hid (show RS = .ok (l, j, ns') by
     obtain ⟨f, _, hK⟩ := hk.out
     rw [hK]; exact rowC_stop hM)
    clear h2 f2 hlt hM
    go_wp2_with fail
    refine (clip_any hn0 hcap _).mono ?_
    rintro e w3 ⟨rfl, rfl⟩
    go_wp2_with fail
    go_ret
    rw [HR.out]
    refine ⟨R2.out.fr, _, rfl, R2.out.rd, R2.out.lo, g, cs, (0, 0), by rw [← HNL.out]; rfl, by rw [← HNL.out]; exact hn0, by rw [← HNL.out]; exact hfew, R2.out.hg, R2.out.blk, ?_⟩
    rw [← HNL.out, ← HTS.out]
    exact ⟨R2.out.tp, by rw [HTS.out] at R2; exact R2.out.ok.1, by rw [HTS.out] at R2; exact R2.out.ok.2⟩
   | true =>
    replace h2 : Pd w2 c (j + 1) ns' := h2
    have R3 := Lib.hid (R.out.stand f2 h2 (Nat.le_succ _))
    have E3 := Lib.hid (HE.out.fr R3.out.fr)
    have hjlt := hlt rfl
    have HM := Lib.hid hM
    clear h2 f2 hlt hM
    go_wp2_with fail
    refine (IH 999 _ _ _ R3.out.rd E3.out).mono ?_
    rintro e w4 hq
    cases hres : tm 999 (j + 1) ns' with
    | error pk =>
     obtain ⟨p, k⟩ := pk
     obtain ⟨f4, rfl⟩ := hq.err hres
     have HR := Lib.hid (show RS = .error (p, k) by
      obtain ⟨f, hf, hK⟩ := hk.out
      obtain ⟨f, rfl⟩ : ∃ k, f = k + 1 := ⟨f - 1, by omega⟩
      rw [hK, rowC_go HM.out, hres]; rfl)
     clear hq hres
     go_wp2_with fail
     refine ⟨rfl, ?_⟩
     rw [HR.out]
     exact ⟨R3.out.fr.trans f4, rfl⟩
    | ok y =>
     obtain ⟨t, j4, ns4⟩ := y
     obtain ⟨f4, v1, rfl, h4, hj4, ht, hgood, hnod⟩ := hq.ok hres
     have KK := Lib.hid (show ∃ f, c.tn ≤ j4 + f ∧ RS = rowC c.tk c.s.size tm f (l ++ [t]) j4 ns4 by
      obtain ⟨f, hf, hK⟩ := hk.out
      obtain ⟨f, rfl⟩ : ∃ k, f = k + 1 := ⟨f - 1, by omega⟩
      exact ⟨f, by omega, by rw [hK, rowC_go HM.out, hres]; rfl⟩)
     obtain ⟨k0, k1, k2, A0, m0, c0, rfl⟩ := ht.agg
     have R4 := Lib.hid (R3.out.stand f4 h4 hj4)
     have HT := Lib.hid (ht.keep (S' := fun b => w.heap.size ≤ b ∧ b ≠ g) (w' := w4) fun b cs' f' hS hb => ⟨hb, by
      have h5 := R3.out.fr.size
      have h6 := heap_lt R3.out.blk
      omega⟩)
     have HOK := Lib.hid (show t.good ∧ i + (sumTo n fun k => (ts k).nodes) + n + t.nodes ≤ j4 from ⟨hgood, by have := R.out.ok.2; omega⟩)
     have hsz4 := R4.out.fr.size
     clear h4 f4 ht hgood hnod hq hres
     go_wp2_with (at_builtin; go_must (refine wpList_append_lies _ rfl _ _ _ rfl w.heap.size 31 item (.agg #[.int .i64 0, .int .i64 0, .string ⟨#[]⟩, .slice none 0 0]) 4 56 Tryz.underlying29 hi1 hi2 hi3 hi4 rfl (by omega) _ n _ rfl (own_below R4.out.own ((Below.refl _ _).alloc (Nat.le_refl _) _)) ⟨w4.heap.size, 0, none⟩ 1 1 [.int .i64 k0, .int .i64 k1, .string k2, .slice A0 m0 c0] rfl rfl ?_ ?_ (by omega) (by unfold maxLen; omega) (by omega) (by simp; omega) _ rfl ?_))
     ·intro k u hu
      rw [show (⟨w4.heap.size, 0, none⟩ : Addr).add k = ⟨w4.heap.size, k, none⟩ by unfold Addr.add; split <;> simp_all]
      rw [cell_of_row _ _ k _ _ _ (heap_alloc_new _ _)]
      simpa using hu
     ·intro u hu
      simp only [List.mem_cons, List.not_mem_nil, or_false] at hu
      rcases hu with rfl | rfl | rfl | rfl <;> rfl
     intro g1 cap1 w5 hown1 hg1 hat _
     obtain ⟨cs', R5⟩ := PRowI.push R4.out ((Below.refl _ _).alloc (Nat.le_refl _) _) HT.out HOK.out (by omega) hown1 hg1 (hat.imp id fun e => e.trans (by simp)) hB
     have RR := Lib.hid R5
     clear R5 hown1 hg1 hat
     go_wp2_with fail
     go_roundw
     case rel => exact ⟨_, l ++ [t], _, _, _, _, by rw [← snoc_get, List.length_append, ← HNL.out, ← HTS.out]; exact RR.out, KK⟩
     case measure => rw [RR.out.rd.left_eq, R.out.rd.left_eq]; omega
end Go.Proofs.YtlogcealmiokkaaGreatDoor
