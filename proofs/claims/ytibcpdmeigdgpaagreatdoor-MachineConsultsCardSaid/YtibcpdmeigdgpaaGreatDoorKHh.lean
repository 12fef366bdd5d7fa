/- Goals of the program: the closure that checks them. Rows of structs of one's own: append(s, make([]T, k)...), s[:k], clear(s[k:]), s[i] = x. Goals of the program: what is gathered, plainly; rows of terms that grow by one. Goals of the program: the closure that gathers them. -/
import Derived.Test.YtibcpdmeigdgpaaGreatDoorKHg
import Derived.Test.YtibcpdmeigdgpaaGreatDoorKGa
import Derived.Lib.AppendZerosOnto
import Derived.Laws.IdiomCopy
import Derived.Test.YtibcpdmeigdgpaaGreatDoorKOrd
import Derived.Deep.AppendLies
import Derived.Deep.CutBlock
import Derived.Deep.DeepCutAuto
namespace Go.Proofs.YtibcpdmeigdgpaaGreatDoor
open Go.RowKit
theorem ctlV_is {k n : Int} {s : ByteArray} {m : Nat} {a : Nat → T} : ctlV k s m = ctlT (.mk k n s m a) := by
 unfold ctlV ctlT isN nameT
 rw [ByteArray.toList_eq]
 have key : ∀ (l : List UInt8) (q : Nat), ctlL l (q : Int) = ((some (l, q) == some (([44] : List UInt8), 2)) || (some (l, q) == some ([59], 2)) || (some (l, q) == some ([45, 62], 2)) || (some (l, q) == some ([92, 43], 1)) || (some (l, q) == some ([33], 0))) := by
  intro l q
  have e2 : ((q : Int) == 2) = (q == 2) := Bool.eq_iff_iff.2 (by simp; omega)
  have e1 : ((q : Int) == 1) = (q == 1) := Bool.eq_iff_iff.2 (by simp; omega)
  have e0 : ((q : Int) == 0) = (q == 0) := Bool.eq_iff_iff.2 (by simp)
  unfold ctlL
  rw [e2, e1, e0]
  by_cases h1 : l = [44]
  ·subst h1; exact Bool.eq_iff_iff.2 (by simp)
  by_cases h2 : l = [59]
  ·subst h2; exact Bool.eq_iff_iff.2 (by simp)
  by_cases h3 : l = [45, 62]
  ·subst h3; exact Bool.eq_iff_iff.2 (by simp)
  by_cases h4 : l = [92, 43]
  ·subst h4; exact Bool.eq_iff_iff.2 (by simp)
  by_cases h5 : l = [33]
  ·subst h5; exact Bool.eq_iff_iff.2 (by simp)
  simp [h1, h2, h3, h4, h5]
 by_cases h3 : k = 3
 ·rw [if_pos h3]
  dsimp only
  rw [if_pos h3]
  exact key _ 0
 ·rw [if_neg h3]
  dsimp only
  rw [if_neg h3]
  by_cases h4 : k = 4
  ·rw [if_pos h4, if_pos h4]
   exact key _ m
  ·rw [if_neg h4, if_neg h4]
   rfl
def fnK (Wb Fb : Nat) : Value := .func (.func 22) #[] #[.pointer (some ⟨Wb, 0, none⟩), .pointer (some ⟨Fb, 0, none⟩)]
structure Ck (w : World) (Wb Fb : Nat) (b : Bool) : Prop where
 bw : w.heap[Wb]? = some (.cells #[.bool b] 4 (0, 0))
 bf : w.heap[Fb]? = some (.cells #[fnK Wb Fb] 73 (0, 0))
structure Ke (Lb B : Nat) (w w' : World) : Prop where
 low : Below B w w'
 keep : ∀ b, b < w.heap.size → b ≠ Lb → w'.heap[b]? = w.heap[b]?
theorem Ke.of {Lb B : Nat} {w w' : World} (h : Below w.heap.size w w') (hB : B ≤ w.heap.size) : Ke Lb B w w' := ⟨h.mono hB, fun b hb _ => h.block b hb⟩
theorem Ke.trans {Lb B : Nat} {w w1 w2 : World} (h : Ke Lb B w w1) (k : Ke Lb B w1 w2) : Ke Lb B w w2 := ⟨h.low.trans k.low, fun b hb hn => (k.keep b (Nat.lt_of_lt_of_le hb h.low.size) hn).trans (h.keep b hb hn)⟩
theorem Ke.set {Lb B : Nat} {w : World} (hB : B ≤ Lb) (v : Value) : Ke Lb B w (w.setCell ⟨Lb, 0, none⟩ v) := ⟨(Below.refl _ _).setCell (p := ⟨Lb, 0, none⟩) hB v, fun _ _ hn => Below.heap_setCell _ _ _ _ hn⟩
theorem TP.low {w w' : World} {B : Nat} {S : Nat → Prop} (hS : ∀ b, S b → b < B) (hb : Below B w w') {t : T} {v : Value} (h : TP w S t v) : TP w' S t v := h.keep fun b _ _ hs hh => ⟨(hb.block b (hS b hs)).trans hh, hs⟩
theorem Ck.below {Wb Fb : Nat} {b : Bool} {w w' : World} (h : Ck w Wb Fb b) (hb : Below w.heap.size w w') : Ck w' Wb Fb b := ⟨(hb.block _ (heap_lt h.bw)).trans h.bw, (hb.block _ (heap_lt h.bf)).trans h.bf⟩
theorem Ck.set {w : World} {Wb Fb : Nat} {b : Bool} (h : Ck w Wb Fb b) (hn : Wb ≠ Fb) (c : Bool) : Ck (w.setCell ⟨Wb, 0, none⟩ (.bool c)) Wb Fb c :=
 ⟨by simpa using blk_set h.bw 0 (.bool c), (Below.heap_setCell _ _ _ _ fun e => hn e.symm).trans h.bf⟩
def CkP (t : T) (Wb Fb B : Nat) (b : Bool) (w : World) (e : Ending) (w' : World) : Prop := e = .returned (.tuple #[]) ∧ (∃ c, Ck w' Wb Fb c ∧ Hid (c = (b || wrongT t))) ∧ Ke Wb B w w'
set_option maxRecDepth 100000 in
set_option maxHeartbeats 8000000 in
theorem pcheck_any : ∀ t : T, t.ok → ∀ (Wb Fb B : Nat) (b : Bool) (S : Nat → Prop) (v : Value) (w : World), (∀ q, S q → q < B) → B ≤ Wb → Wb ≠ Fb → Ck w Wb Fb b → TP w S t v →
 Calls Tryz.prog 22 #[v, .pointer (some ⟨Wb, 0, none⟩), .pointer (some ⟨Fb, 0, none⟩)] w fun e w' => CkP t Wb Fb B b w e w' := by
 intro t
 induction t with
 | nil => intro _ _ _ _ _ _ v w _ _ _ _ hv; exact hv.tin.elim
 | mk k n s m a ih =>
  intro hok Wb Fb B b S v w hS hB hWF hC hv
  obtain ⟨k', n', s', A, m', c, rfl⟩ := hv.agg
  obtain ⟨e0, e1, e2, rfl, hmc, hA, _⟩ := hv.args
  injection e0 with _ e0
  injection e1 with _ e1
  injection e2 with e2
  subst e0; subst e1; subst e2
  have HV := Lib.hid hv
  have HS := Lib.hid hS
  have HOK := Lib.hid hok
  have IH := Lib.hid ih
  have HC := Lib.hid hC
  have hm : m' < 4000 := hok.few
  have c0 := cell_of_row w Wb 0 _ _ _ hC.bw
  have hlw := heap_lt hC.bw
  have hlf := heap_lt hC.bf
  have wz : ∀ i, w.frozen? ⟨Wb, i, none⟩ = false := fun i => by simp [World.frozen?, HC.out.bw]
  obtain ⟨cv, hcv⟩ : ∃ cv, ctlT (.mk k' n' s' m' a) = cv := ⟨_, rfl⟩
  have HW := Lib.hid (show wrongT (.mk k' n' s' m' a) = (k' == 2 || (cv && anyN m' fun i => wrongT (a i))) by rw [wrongT, hcv])
  have CC := Lib.hid (fun W => pcontrol_any k' n' s' A m' c W)
  rw [ctlV_is (n := n') (a := a), hcv] at CC
  clear hv hok ih hA hC hS hcv
  go_enter Tryz.func22, Tryz.ntmps22
  go_upto_region 1 with fail
  go_cut [] (fun wx => ∃ b1 : Bool, Hid (b1 = (b || (k' == 2))) ∧ wx = (w.setCell ⟨Wb, 0, none⟩ (.bool b1)).alloc (Obj.cells #[.int .i64 k', .int .i64 n', .string s', .slice A m' c] 39))
  case first =>
   cases b with
   | true =>
    go_wp2_with fail
    go_meet
    exact ⟨true, Lib.hid rfl, rfl⟩
   | false =>
    go_wp2_with fail
    go_meet
    exact ⟨_, Lib.hid rfl, rfl⟩
  case rest =>
   obtain ⟨b1, HB1, rfl⟩ := hcut
   clear c0 wz
   have BS := Lib.hid (Below.alloc (Below.refl (w.setCell ⟨Wb, 0, none⟩ (.bool b1)).heap.size (w.setCell ⟨Wb, 0, none⟩ (.bool b1))) (Nat.le_refl _) (Obj.cells #[.int .i64 k', .int .i64 n', .string s', .slice A m' c] 39))
   have C1 := Lib.hid ((HC.out.set hWF b1).below BS.out)
   have K1 := Lib.hid ((Ke.set (w := w) hB (.bool b1)).trans (Ke.of BS.out (by simp; omega)))
   have X1 := Lib.hid (show ((w.setCell ⟨Wb, 0, none⟩ (.bool b1)).alloc (Obj.cells #[.int .i64 k', .int .i64 n', .string s', .slice A m' c] 39)).heap[w.heap.size]? = some (.cells #[.int .i64 k', .int .i64 n', .string s', .slice A m' c] 39 (0, 0)) from heap_at _ _ (by simp))
   clear BS HC
   obtain ⟨W1, hW1⟩ : ∃ W1, W1 = (w.setCell ⟨Wb, 0, none⟩ (.bool b1)).alloc (Obj.cells #[.int .i64 k', .int .i64 n', .string s', .slice A m' c] 39) := ⟨_, rfl⟩
   rw [← hW1] at C1 K1 X1 ⊢
   clear hW1
   have hl1 := heap_lt X1.out
   obtain ⟨x0, x1, x2, x3⟩ := box4t X1.out
   go_wp2_with fail
   refine (CC.out _).mono ?_
   rintro e w2 ⟨rfl, hx⟩
   have C2 := Lib.hid (C1.out.below hx)
   have K2 := Lib.hid (K1.out.trans (Ke.of hx (by have := K1.out.low.size; have := hx.size; omega)))
   have X2 := Lib.hid ((hx.block w.heap.size hl1).trans X1.out)
   have hl2 := heap_lt X2.out
   clear hx CC C1 K1 X1 x0 x1 x2 x3 hl1
   obtain ⟨x0, x1, x2, x3⟩ := box4t X2.out
   cases cv with
   | false =>
    go_wp2_with fail
    refine bodyPost_ret (v := .tuple #[]) (by simp [results, go_sem]) rfl ?_
    exact ⟨rfl, ⟨b1, C2.out, Lib.hid (by rw [HW.out, HB1.out]; simp)⟩, K2.out⟩
   | true =>
    go_wp2_with fail
    go_loopw [17] (fun iv wr => ∃ (i : Nat) (b2 : Bool), iv = .int .i64 (i : Int) ∧ i ≤ m' ∧ Ck wr Wb Fb b2 ∧ Hid (b2 = (b1 || anyN i fun i => wrongT (a i))) ∧ Ke Wb B w wr) (fun iv _ => m' - (intOf iv).toNat)
    case atStart => exact ⟨0, b1, rfl, Nat.zero_le _, C2.out, Lib.hid (by simp [anyN]), K2.out⟩
    case round =>
     clear C2 K2 x0 x1 x2 x3
     obtain ⟨i, b2, rfl, hi, hc, H2, hk⟩ := hrel
     have CR := Lib.hid hc
     have KR := Lib.hid hk
     have hws := hk.low.size
     have y0 := cell_of_row wr Fb 0 _ _ _ hc.bf
     have hfl := heap_lt hc.bf
     clear hc hk
     by_cases him : i < m'
     ·have him' : (i : Int) < (m' : Int) := by omega
      obtain ⟨_, _, _, _, _, _, hargs⟩ := (HV.out.low HS.out KR.out.low).args
      obtain ⟨g, k0, k1, k2, A0, m0, c1, rfl, _, hgl, d0, d1, d2, d3, ht⟩ := hargs i him
      have BA := Lib.hid (belA (Below.refl wr.heap.size wr) (Obj.cells #[.int .i64 k0, .int .i64 k1, .string k2, .slice A0 m0 c1] 39))
      have CI := Lib.hid (IH.out i (HOK.out.arg him) Wb Fb B b2 S _ (wr.alloc (Obj.cells #[.int .i64 k0, .int .i64 k1, .string k2, .slice A0 m0 c1] 39)) HS.out hB hWF (CR.out.below BA.out) (ht.below BA.out))
      have y1 : (wr.alloc (Obj.cells #[.int .i64 k0, .int .i64 k1, .string k2, .slice A0 m0 c1] 39)).cell? ⟨Fb, 0, none⟩ = some (fnK Wb Fb) := cell_of_row _ Fb 0 _ _ _ ((CR.out.below BA.out).bf)
      clear hargs ht
      unfold fnK at y0 y1
      go_wp2_with fail
      refine CI.out.mono ?_
      rintro e w5 ⟨rfl, ⟨b3, hc5, H3⟩, hk5⟩
      have C5 := Lib.hid hc5
      have K5 := Lib.hid ((KR.out.trans (Ke.of BA.out (by omega))).trans hk5)
      clear hc5 hk5 CI
      go_wp2_with fail
      go_roundw
      case rel => exact ⟨i + 1, b3, by go_num, him, C5.out, Lib.hid (by rw [H3.out, H2.out, anyN, Bool.or_assoc]), K5.out⟩
      case measure => simp [intOf]; omega
     ·obtain rfl : i = m' := by omega
      go_wp2_with fail
      refine bodyPost_ret (v := .tuple #[]) (by simp [results, go_sem]) rfl ?_
      exact ⟨rfl, ⟨b2, CR.out, Lib.hid (by rw [H2.out, HW.out, HB1.out, Bool.or_assoc]; rfl)⟩, KR.out⟩
end Go.Proofs.YtibcpdmeigdgpaaGreatDoor
namespace Go.Proofs.YtibcpdmeigdgpaaGreatDoor
open Go.RowKit
section
variable {P : Program}
theorem ownsRow_take {w : World} {base : Nat} {e : TypeId} {size : Nat} {A : Option Addr} {n c : Nat} {xs : List Value} (h : w.ownsRow base e size (.slice A n c) n xs) {k : Nat} (hk : k ≤ n) : w.ownsRow base e size (.slice A k c) k (xs.take (k * size)) := by
 obtain ⟨h0, h⟩ := h
 have hks : k * size ≤ n * size := Nat.mul_le_mul_right _ hk
 refine ⟨by rw [List.length_take, h0]; omega, ?_⟩
 rcases h with ⟨hv, hn⟩ | ⟨g, cap, cur, hv, hg, hh, hn, hm, hs, ht⟩
 ·injection hv with e1 e2 e3
  subst e1; subst e3
  exact .inl ⟨by rw [show k = 0 by omega], by omega⟩
 ·injection hv with e1 e2 e3
  subst e1; subst e3
  exact .inr ⟨g, c, cur, rfl, hg, hh, by omega, hm, hs, by rw [← ht, List.take_take, Nat.min_eq_left hks]⟩
theorem setCells_block {g : Nat} {e : TypeId} {m : Nat × Nat} : ∀ (us : List Value) (o : Nat) (w : World) (cur : Array Value), w.heap[g]? = some (.cells cur e m) → o + us.length ≤ cur.size →
 (w.setCells g o us).heap[g]? = some (.cells (cur.toList.take o ++ us ++ cur.toList.drop (o + us.length)).toArray e m)
 | [], o, w, cur, h, _ => by
  show w.heap[g]? = _
  rw [h]
  simp [List.take_append_drop]
 | u :: us, o, w, cur, h, hl => by
  show ((w.setCell ⟨g, o, none⟩ u).setCells g (o + 1) us).heap[g]? = _
  have hlt : o < cur.size := by simp at hl; omega
  have h1 : (w.setCell ⟨g, o, none⟩ u).heap[g]? = some (.cells (cur.setIfInBounds o u) e m) := by
   simp [World.setCell, Array.getElem?_modify, h]
  rw [setCells_block us (o + 1) _ _ h1 (by simp at hl ⊢; omega)]
  congr 2
  apply Array.ext'
  simp only [List.length_cons, Array.toList_setIfInBounds]
  rw [show o + 1 + us.length = o + (us.length + 1) by omega]
  have ht : (cur.toList.set o u).take (o + 1) = cur.toList.take o ++ [u] := by
   rw [List.take_set, List.take_add_one, List.getElem?_eq_getElem (by simpa using hlt)]
   simp [List.length_take, Nat.min_eq_left (Nat.le_of_lt hlt)]
  have hd : (cur.toList.set o u).drop (o + (us.length + 1)) = cur.toList.drop (o + (us.length + 1)) := List.drop_set_of_lt (by omega)
  rw [ht, hd]
  simp
theorem setCells_other {g b : Nat} (hb : b ≠ g) : ∀ (us : List Value) (o : Nat) (w : World), (w.setCells g o us).heap[b]? = w.heap[b]?
 | [], _, _ => rfl
 | u :: us, o, w => (setCells_other hb us (o + 1) (w.setCell ⟨g, o, none⟩ u)).trans (Below.heap_setCell _ _ _ _ hb)
theorem setCells_size {g : Nat} : ∀ (us : List Value) (o : Nat) (w : World), (w.setCells g o us).heap.size = w.heap.size
 | [], _, _ => rfl
 | u :: us, o, w => (setCells_size us (o + 1) (w.setCell ⟨g, o, none⟩ u)).trans (by simp)
theorem setCells_own {w : World} {base : Nat} {e : TypeId} {size : Nat} {g n c : Nat} {xs : List Value} (h : w.ownsRow base e size (.slice (some ⟨g, 0, none⟩) n c) n xs) (us : List Value) {o : Nat} (ho : o + us.length ≤ n * size) :
 (w.setCells g o us).ownsRow base e size (.slice (some ⟨g, 0, none⟩) n c) n (xs.take o ++ us ++ xs.drop (o + us.length)) := by
 obtain ⟨h0, h⟩ := h
 refine ⟨by simp [h0]; omega, ?_⟩
 rcases h with ⟨hv, hn⟩ | ⟨g', cap, cur, hv, hg, hh, hn, hm, hs, ht⟩
 ·cases hv
 ·injection hv with e1 e2 e3
  injection e1 with e1
  injection e1 with e1
  subst e1; subst e3
  have hns : n * size ≤ c * size := Nat.mul_le_mul_right _ hn
  refine .inr ⟨g, c, _, rfl, hg, setCells_block us o w cur hh (by omega), hn, hm, ?_, ?_⟩
  ·simp only [List.size_toArray, List.length_append, List.length_take, List.length_drop, Array.length_toList]
   omega
  ·subst ht
   show (cur.toList.take o ++ us ++ cur.toList.drop (o + us.length)).take (n * size) = _
   rw [List.take_take, Nat.min_eq_left (by omega), List.drop_take, List.take_append, List.take_of_length_le (by simp; omega)]
   congr 1
   congr 1
   simp only [List.length_append, List.length_take, Array.length_toList]
   omega
end
end Go.Proofs.YtibcpdmeigdgpaaGreatDoor
namespace Go.Proofs.YtibcpdmeigdgpaaGreatDoor
open Go.RowKit
def callW : ByteArray := ⟨#[99, 97, 108, 108]⟩
def gatN : T → List T
 | .nil => []
 | .mk k n s m a => if isN (.mk k n s m a) [44] 2 then gatN (a 0) ++ gatN (a 1) else if isN (.mk k n s m a) [116, 114, 117, 101] 0 then [] else if k = 1 then [.mk 4 0 callW 1 fun _ => .mk k n s m a] else [.mk k n s m a]
theorem gat_ok : ∀ (t : T), t.good → (∀ g ∈ gatN t, g.good ∧ g.nodes ≤ max t.nodes 2) ∧ nodesL (gatN t) ≤ 2 * t.nodes ∧ (gatN t).length ≤ t.nodes := by
 intro t
 induction t with
 | nil => intro _; exact ⟨fun _ h => (by cases h), Nat.zero_le _, Nat.zero_le _⟩
 | mk k n s m a ih =>
  intro hg
  unfold gatN
  by_cases h1 : isN (.mk k n s m a) [44] 2 = true
  ·rw [if_pos h1]
   obtain ⟨n1, s1, a1, he, _⟩ := isN_two h1
   injection he with e1 e2 e3 e4 e5
   subst e1; subst e2; subst e3; subst e4; subst e5
   have hN : (T.mk 4 n s 2 a).nodes = 1 + (0 + (a 0).nodes + (a 1).nodes) := rfl
   obtain ⟨p1, p2, p3⟩ := ih 0 (hg.2 0 (by omega))
   obtain ⟨r1, r2, r3⟩ := ih 1 (hg.2 1 (by omega))
   refine ⟨fun g hm => ?_, by rw [nodesL_app, hN]; omega, by rw [List.length_append, hN]; omega⟩
   rcases List.mem_append.1 hm with hm | hm
   ·exact ⟨(p1 g hm).1, by have := (p1 g hm).2; rw [hN]; omega⟩
   ·exact ⟨(r1 g hm).1, by have := (r1 g hm).2; rw [hN]; omega⟩
  ·rw [if_neg h1]
   by_cases h2 : isN (.mk k n s m a) [116, 114, 117, 101] 0 = true
   ·rw [if_pos h2]; exact ⟨fun _ h => (by cases h), Nat.zero_le _, Nat.zero_le _⟩
   ·rw [if_neg h2]
    have hp := hg.pos
    by_cases h3 : k = 1
    ·rw [if_pos h3]
     have h0 : m = 0 := by
      rcases hg.1 with h | h | h | h
      ·exact h.2.2.2.2
      ·omega
      ·omega
      ·omega
     subst h0
     have e : (T.mk k n s 0 a).nodes = 1 := leaf_nodes _ _ _ _
     refine ⟨fun g hm => ?_, by simp [nodesL, T.nodes, sumTo], by simp [e]⟩
     rw [List.mem_singleton] at hm
     subst hm
     exact ⟨call_good hg, by show 1 + (0 + (T.mk k n s 0 a).nodes) ≤ _; omega⟩
    ·rw [if_neg h3]
     refine ⟨fun g hm => ?_, by simp [nodesL]; omega, by simp; omega⟩
     rw [List.mem_singleton] at hm
     subst hm
     exact ⟨hg, by omega⟩
theorem TL.key {w w' : World} {B : Nat} {S P : Nat → Prop} {v : Value} {l : List T} {qs : List Q6} (h : TL w B S P v l qs) (hsz : w.heap.size ≤ w'.heap.size)
 (hk : ∀ (b : Nat) (cs : Array Value) (f : Nat × Nat), w.heap[b]? = some (.cells cs 39 f) → w'.heap[b]? = some (.cells cs 39 f)) : TL w' B S P v l qs :=
 ⟨h.len, own_keep h.own fun g hg => by
  obtain ⟨cs, f, hh⟩ := Go.Lib.ownsRow_kind h.own _ hg
  exact (hk g cs f hh).trans hh.symm, fun i h1 h2 => (h.tp i h1 h2).keep fun b cs f hS hb => ⟨hk b cs f hb, hS⟩, fun b hP => ⟨(h.lo b hP).1, Nat.lt_of_lt_of_le (h.lo b hP).2 hsz⟩, h.off, h.NB⟩
theorem setCells_rest {g : Nat} : ∀ (us : List Value) (o : Nat) (w : World), (w.setCells g o us).os = w.os ∧ (w.setCells g o us).tape = w.tape ∧ (w.setCells g o us).output = w.output
 | [], _, _ => ⟨rfl, rfl, rfl⟩
 | _ :: us, o, w => setCells_rest us (o + 1) (w.setCell ⟨g, o, none⟩ _)
theorem grown_set {w w' : World} {v : Value} {g : Nat} (h : w.grownBy w' v.ownBlock) (hg : v.ownBlock = some g ∨ w.heap.size ≤ g) (o : Nat) (us : List Value) : w.grownBy (w'.setCells g o us) v.ownBlock := by
 obtain ⟨e1, e2, e3⟩ := setCells_rest (g := g) us o w'
 refine ⟨e1.trans h.os, e2.trans h.tape, e3.trans h.output, by rw [setCells_size]; exact h.size, fun k hk hn => ?_⟩
 rw [setCells_other (fun e => ?_)]
 ·exact h.block k hk hn
 ·subst e
  rcases hg with hg | hg
  ·exact hn hg.symm
  ·omega
theorem TL.put {w w5 : World} {B : Nat} {S P P2 : Nat → Prop} {A : Option Addr} {m c g cap : Nat} {l : List T} {qs : List Q6} (h : TL w B S P (.slice A m c) l qs) (hm : m = l.length) {t : T} (q : Q6) (ht : TP w (fun b => S b ∨ P2 b) t q.val)
 (hlo : ∀ b, P2 b → B ≤ b ∧ b < w.heap.size) (hoff : ∀ g, (Value.slice A m c).ownBlock = some g → ¬ P2 g)
 (hown : w5.ownsRow B 39 4 (.slice (some ⟨g, 0, none⟩) (m + 1) cap) (m + 1) (qCells qs ++ [.int .i64 0, .int .i64 0, .string ⟨#[]⟩, .slice none 0 0])) (hg : w.grownBy w5 (Value.slice A m c).ownBlock) (hat : (Value.slice A m c).ownBlock = some g ∨ g = w.heap.size) :
 TL (w5.setCells g (m * 4) q.cells) B S (fun b => P b ∨ P2 b) (.slice (some ⟨g, 0, none⟩) (m + 1) cap) (l ++ [t]) (qs ++ [q]) := by
 have hl : (qCells qs).length = m * 4 := by rw [qCells_length, h.len, hm]
 have h1 := setCells_own hown q.cells (o := m * 4) (by simp [Q6.cells]; omega)
 rw [List.take_append_of_le_length (by omega), List.take_of_length_le (by omega), List.drop_of_length_le (by simp [Q6.cells]; omega), List.append_nil, qCells_one, hm] at h1
 rw [hm]
 refine h.app (l2 := [t]) (q2 := [q]) rfl h1 (grown_set hg (by rcases hat with h | h; exact .inl h; exact .inr (by omega)) _ _) ?_ ?_ hlo hoff
 ·rcases hat with h | h
  ·exact .inl h.symm
  ·exact .inr (by rw [h]; rfl)
 ·intro i h1 h2
  obtain rfl : i = 0 := by simpa using h1
  exact ht
end Go.Proofs.YtibcpdmeigdgpaaGreatDoor
namespace Go.Proofs.YtibcpdmeigdgpaaGreatDoor
open Go.RowKit
def fnH (Fb Ob : Nat) : Value := .func (.func 23) #[] #[.pointer (some ⟨Fb, 0, none⟩), .pointer (some ⟨Ob, 0, none⟩)]
structure Gb (w : World) (Fb Ob B : Nat) (S P : Nat → Prop) (A : Option Addr) (m c : Nat) (l : List T) (qs : List Q6) : Prop where
 bf : w.heap[Fb]? = some (.cells #[fnH Fb Ob] 73 (0, 0))
 bo : w.heap[Ob]? = some (.cells #[.slice A m c] 35 (0, 0))
 tl : TL w B S P (.slice A m c) l qs
theorem Gb.below {w w' : World} {Fb Ob B : Nat} {S P : Nat → Prop} {A : Option Addr} {m c : Nat} {l : List T} {qs : List Q6} (h : Gb w Fb Ob B S P A m c l qs) (hb : Below w.heap.size w w') : Gb w' Fb Ob B S P A m c l qs :=
 ⟨(hb.block _ (heap_lt h.bf)).trans h.bf, (hb.block _ (heap_lt h.bo)).trans h.bo, h.tl.below hb⟩
theorem Gb.len {w : World} {Fb Ob B : Nat} {S P : Nat → Prop} {A : Option Addr} {m c : Nat} {l : List T} {qs : List Q6} (h : Gb w Fb Ob B S P A m c l qs) : m = l.length := by
 obtain ⟨_, _, e, _⟩ := own_open h.tl.own
 injection e
structure Kq (Ob B : Nat) (v v' : Value) (w w' : World) : Prop where
 low : Below B w w'
 keep : ∀ b, b < w.heap.size → b ≠ Ob → some b ≠ v.ownBlock → w'.heap[b]? = w.heap[b]?
 own : v'.ownBlock = v.ownBlock ∨ ∀ g, v'.ownBlock = some g → w.heap.size ≤ g
theorem Kq.of {Ob B : Nat} {v : Value} {w w' : World} (h : Below w.heap.size w w') (hB : B ≤ w.heap.size) : Kq Ob B v v w w' := ⟨h.mono hB, fun b hb _ _ => h.block b hb, .inl rfl⟩
theorem Kq.trans {Ob B : Nat} {v v1 v2 : Value} {w w1 w2 : World} (h : Kq Ob B v v1 w w1) (k : Kq Ob B v1 v2 w1 w2) : Kq Ob B v v2 w w2 := by
 have hs := h.low.size
 refine ⟨h.low.trans k.low, fun b hb hn ho => (k.keep b (by omega) hn fun e => ?_).trans (h.keep b hb hn ho), ?_⟩
 ·rcases h.own with h1 | h1
  ·exact ho (e.trans h1)
  ·have := h1 b e.symm; omega
 ·rcases k.own with h1 | h1
  ·rcases h.own with h2 | h2
   ·exact .inl (h1.trans h2)
   ·exact .inr fun g hg => h2 g (h1 ▸ hg)
  ·exact .inr fun g hg => Nat.le_trans hs (h1 g hg)
theorem Gb.neO {w w5 : World} {Fb Ob B g cap n : Nat} {S P : Nat → Prop} {A : Option Addr} {m c : Nat} {l : List T} {qs : List Q6} {xs : List Value} (h : Gb w Fb Ob B S P A m c l qs) (hown : w5.ownsRow B 39 4 (.slice (some ⟨g, 0, none⟩) n cap) n xs) (hg : w.grownBy w5 (Value.slice A m c).ownBlock)
 (hat : (Value.slice A m c).ownBlock = some g ∨ g = w.heap.size) : Ob ≠ g ∧ w5.heap[Ob]? = some (.cells #[.slice A m c] 35 (0, 0)) := by
 have h1 : some Ob ≠ (Value.slice A m c).ownBlock := fun e => by
  obtain ⟨cs', f', hh⟩ := Go.Lib.ownsRow_kind h.tl.own _ e.symm
  rw [h.bo] at hh
  injection hh with hh
  injection hh with _ hh
  exact absurd hh (by decide)
 refine ⟨fun e => ?_, (hg.block _ (heap_lt h.bo) h1).trans h.bo⟩
 subst e
 rcases hat with h2 | h2
 ·exact h1 h2.symm
 ·have := heap_lt h.bo; omega
def GhP (t : T) (Fb Ob B : Nat) (S : Nat → Prop) (v : Value) (l : List T) (qs : List Q6) (w : World) (e : Ending) (w' : World) : Prop :=
 e = .returned (.tuple #[]) ∧ ∃ (P : Nat → Prop) (A : Option Addr) (m c : Nat) (qs' : List Q6), Gb w' Fb Ob B S P A m c (l ++ gatN t) (qs ++ qs') ∧ Kq Ob B v (.slice A m c) w w'
theorem isN_zq {k n : Int} {s : ByteArray} {m : Nat} {a : Nat → T} {z : ByteArray} {q : Nat} {b : Bool} (h : (b = true ∧ z = s ∧ (k = 3 ∧ q = 0 ∨ k = 4 ∧ q = m)) ∨ (b = false ∧ k ≠ 3 ∧ k ≠ 4 ∧ z = ⟨#[]⟩ ∧ q = 0)) {l : List UInt8} (hl : l ≠ []) (x : Nat) :
 isN (.mk k n s m a) l x = ((z.toList == l) && ((q : Int) == (x : Int))) := by
 rw [isN_is h l x]
 unfold isV
 rw [nm_list]
 rcases h with ⟨rfl, _⟩ | ⟨rfl, _, _, rfl, _⟩
 ·simp
 ·have : ((⟨#[]⟩ : ByteArray).toList == l) = false := by
   rw [ByteArray.toList_eq]
   cases l with
   | nil => exact absurd rfl hl
   | cons => rfl
  rw [this]
  rfl
theorem below_setCells {w w' : World} {B g : Nat} (h : Below B w w') (hg : B ≤ g) : ∀ (us : List Value) (o : Nat), Below B w (w'.setCells g o us) := fun us => by
 induction us generalizing w' with
 | nil => exact fun _ => h
 | cons u us ih => exact fun o => ih (h.setCell (p := ⟨g, o, none⟩) hg u) (o + 1)
theorem row_last {w : World} {B g m cap : Nat} {qs : List Q6} (h : w.ownsRow B 39 4 (.slice (some ⟨g, 0, none⟩) (m + 1) cap) (m + 1) (qCells qs ++ [.int .i64 0, .int .i64 0, .string ⟨#[]⟩, .slice none 0 0])) (hm : qs.length = m) :
 w.cell? ⟨g, m * 4, none⟩ = some (.int .i64 0) ∧ w.cell? ⟨g, m * 4 + 1, none⟩ = some (.int .i64 0) ∧ w.cell? ⟨g, m * 4 + 2, none⟩ = some (.string ⟨#[]⟩) ∧ w.cell? ⟨g, m * 4 + 3, none⟩ = some (.slice none 0 0) ∧ (∀ i, w.frozen? ⟨g, i, none⟩ = false) ∧ g < w.heap.size := by
 have hl : (qCells qs).length = m * 4 := by rw [qCells_length, hm]
 obtain ⟨_, _, e, _, _, _, hx⟩ := own_open h
 injection e with e1 _ e3
 obtain ⟨g', cur, e4, _, hh, hc⟩ := hx (by omega)
 rw [← e1] at e4
 injection e4 with e4
 injection e4 with e4
 subst e4
 have at_ : ∀ j v, (qCells qs ++ [.int .i64 0, .int .i64 0, .string ⟨#[]⟩, .slice none 0 0])[m * 4 + j]? = some v → j < 4 → w.cell? ⟨g, m * 4 + j, none⟩ = some v := fun j v hv hj => (cell_of_row _ _ _ _ _ _ hh).trans ((hc _ (by omega)).trans hv)
 refine ⟨at_ 0 _ ?_ (by omega), at_ 1 _ ?_ (by omega), at_ 2 _ ?_ (by omega), at_ 3 _ ?_ (by omega), fun i => by simp [World.frozen?, hh], heap_lt hh⟩ <;> (rw [List.getElem?_append_right (by omega), hl]; simp)
structure Mk (w u : World) (o : Obj) : Prop where
 low : Below w.heap.size w u
 new : u.heap[w.heap.size]? = some o
 sz : u.heap.size = w.heap.size + 1
theorem Mk.alloc (w : World) (o : Obj) : Mk w (w.drew.alloc o) o := ⟨((Below.refl _ _).drew).alloc (Nat.le_refl _) _, heap_alloc_new w.drew o, by simp⟩
theorem Mk.alloc2 (w : World) (o : Obj) : Mk w (w.alloc o) o := ⟨(Below.refl _ _).alloc (Nat.le_refl _) _, heap_alloc_new w o, by simp⟩
theorem Gb.put {w W w5 w9 : World} {Fb Ob B g cap : Nat} {S P P2 : Nat → Prop} {A : Option Addr} {m c : Nat} {l : List T} {qs : List Q6} (h : Gb w Fb Ob B S P A m c l qs) {t : T} (q : Q6) (hw : Below w.heap.size w W) (hBw : B ≤ w.heap.size) (hOB : B ≤ Ob) (ht : TP W (fun b => S b ∨ P2 b) t q.val) (hlo : ∀ b, P2 b → w.heap.size ≤ b ∧ b < W.heap.size)
 (hown : w5.ownsRow B 39 4 (.slice (some ⟨g, 0, none⟩) (m + 1) cap) (m + 1) (qCells qs ++ [.int .i64 0, .int .i64 0, .string ⟨#[]⟩, .slice none 0 0])) (hg : W.grownBy w5 (Value.slice A m c).ownBlock) (hat : (Value.slice A m c).ownBlock = some g ∨ g = W.heap.size)
 (h9 : w9 = (w5.setCells g (m * 4) q.cells).setCell ⟨Ob, 0, none⟩ (.slice (some ⟨g, 0, none⟩) (m + 1) cap) ∨ w9 = (w5.setCell ⟨Ob, 0, none⟩ (.slice (some ⟨g, 0, none⟩) (m + 1) cap)).setCells g (m * 4) q.cells) :
 Gb w9 Fb Ob B S (fun b => P b ∨ P2 b) (some ⟨g, 0, none⟩) (m + 1) cap (l ++ [t]) (qs ++ [q]) ∧ Kq Ob B (.slice A m c) (.slice (some ⟨g, 0, none⟩) (m + 1) cap) w w9 := by
 have hsW := hw.size
 have H := h.below hw
 have hof : ∀ g', (Value.slice A m c).ownBlock = some g' → ¬ P2 g' := fun g' e hp => by
  have h1 := (h.tl.own.lt g' e).2
  have := (hlo g' hp).1
  omega
 have HT := H.tl.put h.len q ht (fun b hb => ⟨by have := (hlo b hb).1; omega, (hlo b hb).2⟩) hof hown hg hat
 have hgl := (hown.lt g rfl).2
 have hgW : ∀ b cs t f, W.heap[b]? = some (.cells cs t f) → t ≠ 39 → some b ≠ (Value.slice A m c).ownBlock ∧ b ≠ g := fun b cs t f hb htt => by
  have h1 : some b ≠ (Value.slice A m c).ownBlock := fun e => by
   obtain ⟨cs', f', hh⟩ := Go.Lib.ownsRow_kind H.tl.own _ e.symm
   rw [hb] at hh
   injection hh with hh
   injection hh with _ hh
   exact htt hh
  refine ⟨h1, fun e => ?_⟩
  subst e
  rcases hat with h2 | h2
  ·exact h1 h2.symm
  ·have := heap_lt hb; omega
 obtain ⟨nO1, nO2⟩ := hgW _ _ _ _ H.bo (by decide)
 obtain ⟨nF1, nF2⟩ := hgW _ _ _ _ H.bf (by decide)
 have nFO : Fb ≠ Ob := fun e => by
  have h1 := H.bf
  rw [e, H.bo] at h1
  injection h1 with h1
  injection h1 with _ h1
  exact absurd h1 (by decide)
 have hall : ∀ b, b ≠ Ob → w9.heap[b]? = (w5.setCells g (m * 4) q.cells).heap[b]? := fun b hb => by
  rcases h9 with rfl | rfl
  ·exact Below.heap_setCell _ _ _ _ hb
  ·by_cases hbg : b = g
   ·subst hbg
    obtain ⟨cs, f, hh⟩ := Go.Lib.ownsRow_kind hown _ rfl
    have h1 : (w5.setCell ⟨Ob, 0, none⟩ (.slice (some ⟨b, 0, none⟩) (m + 1) cap)).heap[b]? = some (.cells cs 39 f) := (Below.heap_setCell _ _ _ _ hb).trans hh
    have hc : m * 4 + q.cells.length ≤ cs.size := by
     obtain ⟨_, cur, e, _, hcur, _⟩ : ∃ (x : Nat) (cur : Array Value), w5.heap[b]? = some (.cells cur 39 (0, 0)) ∧ x = 0 ∧ (m + 1) * 4 ≤ cur.size ∧ True := by
      rcases hown.2 with ⟨hv, _⟩ | ⟨g', cp, cur, hv, _, hh', hn, _, hs, _⟩
      ·cases hv
      ·injection hv with e1 _ e3
       injection e1 with e1
       injection e1 with e1
       subst e1; subst e3
       exact ⟨0, cur, hh', rfl, by rw [hs]; omega, trivial⟩
     rw [hh] at e
     injection e with e
     injection e with e
     subst e
     simp [Q6.cells]
     omega
    rw [setCells_block q.cells (m * 4) _ _ h1 hc, setCells_block q.cells (m * 4) _ _ hh hc]
   ·rw [setCells_other hbg, setCells_other hbg]
    exact Below.heap_setCell _ _ _ _ hb
 have hsz : w9.heap.size = w5.heap.size := by rcases h9 with rfl | rfl <;> simp [setCells_size]
 have hO9 : w9.heap[Ob]? = some (.cells #[.slice (some ⟨g, 0, none⟩) (m + 1) cap] 35 (0, 0)) := by
  have h5 : w5.heap[Ob]? = some (.cells #[.slice A m c] 35 (0, 0)) := (hg.block _ (heap_lt H.bo) nO1).trans H.bo
  rcases h9 with rfl | rfl
  ·have h6 : (w5.setCells g (m * 4) q.cells).heap[Ob]? = some (.cells #[.slice A m c] 35 (0, 0)) := (setCells_other nO2 _ _ _).trans h5
   simpa using blk_set h6 0 (.slice (some ⟨g, 0, none⟩) (m + 1) cap)
  ·refine (setCells_other nO2 _ _ _).trans ?_
   simpa using blk_set h5 0 (.slice (some ⟨g, 0, none⟩) (m + 1) cap)
 have hF9 : w9.heap[Fb]? = some (.cells #[fnH Fb Ob] 73 (0, 0)) := (hall Fb nFO).trans ((setCells_other nF2 _ _ _).trans ((hg.block _ (heap_lt H.bf) nF1).trans H.bf))
 have hW9 : ∀ b, b < W.heap.size → b ≠ Ob → some b ≠ (Value.slice A m c).ownBlock → w9.heap[b]? = W.heap[b]? := fun b hb hO ho => by
  refine (hall b hO).trans ((setCells_other (fun e => ?_) _ _ _).trans (hg.block b hb ho))
  subst e
  rcases hat with h2 | h2
  ·exact ho h2.symm
  ·omega
 refine ⟨⟨hF9, hO9, HT.key (by rw [setCells_size, hsz]; exact Nat.le_refl _) fun b cs f hb => ?_⟩, ?_, ?_, ?_⟩
 ·refine (hall b fun e => ?_).trans hb
  subst e
  have h6 : (w5.setCells g (m * 4) q.cells).heap[b]? = some (.cells #[.slice A m c] 35 (0, 0)) := (setCells_other nO2 _ _ _).trans ((hg.block _ (heap_lt H.bo) nO1).trans H.bo)
  rw [h6] at hb
  injection hb with hb
  injection hb with _ hb
  exact absurd hb (by decide)
 ·have h1 : Below B w w5 := (hw.mono hBw).grown hg (by omega) (ownBlock_ge H.tl.own)
  have hgB := (hown.lt g rfl).1
  rcases h9 with rfl | rfl
  ·exact (below_setCells h1 hgB _ _).setCell (p := ⟨Ob, 0, none⟩) hOB _
  ·exact below_setCells (h1.setCell (p := ⟨Ob, 0, none⟩) hOB _) hgB _ _
 ·intro b hb hO ho
  exact (hW9 b (by omega) hO ho).trans (hw.block b hb)
 ·rcases hat with h2 | h2
  ·exact .inl h2.symm
  ·refine .inr fun g' e => ?_
   have e : g = g' := by simpa [Value.ownBlock] using e
   omega
set_option maxRecDepth 100000 in
set_option maxHeartbeats 16000000 in
theorem gath_any : ∀ t : T, t.ok → ∀ (Fb Ob B : Nat) (S P : Nat → Prop) (A : Option Addr) (m c : Nat) (l : List T) (qs : List Q6) (v : Value) (w : World), B ≤ w.heap.size → B ≤ Ob → l.length + t.nodes ≤ 100000 → Gb w Fb Ob B S P A m c l qs → TP w S t v →
 Calls Tryz.prog 23 #[v, .pointer (some ⟨Fb, 0, none⟩), .pointer (some ⟨Ob, 0, none⟩)] w fun e w' => GhP t Fb Ob B S (.slice A m c) l qs w e w' := by
 intro t
 induction t with
 | nil => intro _ _ _ _ _ _ _ _ _ _ _ v w _ _ _ _ hv; exact hv.tin.elim
 | mk k n s m' a ih =>
  intro hok Fb Ob B S P A m c l qs v w hBw hOB hlen hG hv
  obtain ⟨k', n', s', A', mm, c', rfl⟩ := hv.agg
  obtain ⟨e0, e1, e2, rfl, hmc, hA, _⟩ := hv.args
  injection e0 with _ e0
  injection e1 with _ e1
  injection e2 with e2
  subst e0; subst e1; subst e2
  have HV := Lib.hid hv
  have HOK := Lib.hid hok
  have IH := Lib.hid ih
  have HS := Lib.hid hG.tl.NB
  obtain ⟨z, q, b, he, hz⟩ := nameV_cases k' s' mm
  have CN := Lib.hid (fun W => pname_any k' n' s' A' mm c' W)
  rw [he] at CN
  obtain ⟨c1, hc1⟩ : ∃ c1, isN (.mk k' n' s' mm a) [44] 2 = c1 := ⟨_, rfl⟩
  obtain ⟨c2, hc2⟩ : ∃ c2, isN (.mk k' n' s' mm a) [116, 114, 117, 101] 0 = c2 := ⟨_, rfl⟩
  have HC1 := Lib.hid hc1
  have HC2 := Lib.hid hc2
  have HZ1 := Lib.hid ((isN_zq (n := n') (a := a) hz (l := [44]) (by simp) 2).symm.trans hc1)
  have HZ2 := Lib.hid ((isN_zq (n := n') (a := a) hz (l := [116, 114, 117, 101]) (by simp) 0).symm.trans hc2)
  have HM := Lib.hid hG.len
  have BX := Lib.hid (belA (Below.refl w.heap.size w) (Obj.cells #[.int .i64 k', .int .i64 n', .string s', .slice A' mm c'] 39))
  have G0 := Lib.hid (hG.below BX.out)
  have K0 := Lib.hid (Kq.of (Ob := Ob) (v := .slice A m c) BX.out hBw)
  have X0 := Lib.hid (heap_alloc_new w (Obj.cells #[.int .i64 k', .int .i64 n', .string s', .slice A' mm c'] 39))
  have HLen := Lib.hid hlen
  have HBw := Lib.hid hBw
  have HNW := Lib.hid (show w.heap.size ≠ Ob ∧ some w.heap.size ≠ (Value.slice A m c).ownBlock from ⟨fun e => by have := heap_lt hG.bo; omega, fun e => by have := (hG.tl.own.lt _ e.symm).2; omega⟩)
  clear hv hok ih hA hG he hz hc1 hc2 hlen hmc hBw
  go_enter Tryz.func23, Tryz.ntmps23
  go_wp2_with fail
  refine (CN.out _).mono ?_
  rintro e w1 ⟨rfl, hx⟩
  have G1 := Lib.hid (G0.out.below hx)
  have K1 := Lib.hid (K0.out.trans (Kq.of hx (by have := K0.out.low.size; have := HBw.out; omega)))
  have hl0 := heap_lt X0.out
  have X1 := Lib.hid ((hx.block w.heap.size hl0).trans X0.out)
  have B1 := Lib.hid (BX.out.trans (hx.mono BX.out.size))
  have HV1 := Lib.hid (HV.out.below B1.out)
  clear hx CN G0 K0 X0 BX hl0
  have hl1 := heap_lt X1.out
  go_upto_region 3 with fail
  go_cut [19] (fun s19 wx => s19 = .bool c1 ∧ w1 = wx)
  case first =>
   have hz1 := HZ1.out
   cases h1 : (z.toList == [44]) with
   | false =>
    rw [h1] at hz1
    have HE := Lib.hid (show c1 = false from hz1.symm)
    clear hz1
    go_wp2_with fail
    go_meet
    exact ⟨by rw [HE.out], rfl⟩
   | true =>
    rw [h1] at hz1
    have HE := Lib.hid (show c1 = ((q : Int) == 2) from hz1.symm)
    clear hz1
    go_wp2_with fail
    go_meet
    exact ⟨by rw [HE.out], rfl⟩
  case rest =>
   obtain ⟨rfl, rfl⟩ := hcut
   cases c1 with
   | true =>
    obtain ⟨n1, s1, a1, he, _⟩ := isN_two HC1.out
    injection he with e1 e2 e3 e4 e5
    subst e1; subst e2; subst e3; subst e4; subst e5
    have HGN := Lib.hid (show gatN (.mk 4 n' s' 2 a) = gatN (a 0) ++ gatN (a 1) by conv => lhs; unfold gatN; rw [HC1.out, if_pos rfl])
    have HNO := Lib.hid (show (T.mk 4 n' s' 2 a).nodes = 1 + (0 + (a 0).nodes + (a 1).nodes) from rfl)
    have HG0 := Lib.hid (gat_ok (a 0) (HOK.out.1.2 0 (by omega)))
    obtain ⟨_, _, _, _, _, _, hargs⟩ := HV1.out.args
    obtain ⟨g, k0, k1, k2, A0, m0, c0, rfl, hSg, hgl, d0, d1, d2, d3, hta⟩ := hargs 0 (by omega)
    simp only [Nat.zero_mul, Nat.zero_add] at d0 d1 d2 d3
    have hBw1 : B ≤ w1.heap.size := by have := K1.out.low.size; have := HBw.out; omega
    have D := Lib.hid (show w1.cell? ⟨g, 0, none⟩ = some (.int .i64 k0) ∧ w1.cell? ⟨g, 1, none⟩ = some (.int .i64 k1) ∧ w1.cell? ⟨g, 2, none⟩ = some (.string k2) ∧ w1.cell? ⟨g, 3, none⟩ = some (.slice A0 m0 c0) from ⟨d0, d1, d2, d3⟩)
    have CI := Lib.hid (IH.out 0 (HOK.out.arg (by omega)) Fb Ob B S P A m c l qs _ w1.drew hBw1 hOB (by have := HLen.out; have := HNO.out; omega) (G1.out.below (Below.refl _ _).drew) (hta.below (Below.refl _ _).drew))
    have HGL := Lib.hid hgl
    clear hargs hta d0 d1 d2 d3
    go_wp2_with fail
    refine regionF (fun k u => match k with | 0 => u.heap[Fb]? = some (.cells #[.func (.func 23) #[] #[.pointer (some ⟨Fb, 0, none⟩), .pointer (some ⟨Ob, 0, none⟩)]] 73 (0, 0)) | 2 => u.heap[w.heap.size]? = some (.cells #[.int .i64 4, .int .i64 n', .string s', .slice (some ⟨g, 0, none⟩) 2 c'] 39 (0, 0)) | 4 => u.cell? ⟨g, 0, none⟩ = some (.int .i64 k0) ∧ u.cell? ⟨g, 1, none⟩ = some (.int .i64 k1) ∧ u.cell? ⟨g, 2, none⟩ = some (.string k2) ∧ u.cell? ⟨g, 3, none⟩ = some (.slice A0 m0 c0) | _ => True) [0, 2, 4] (by kernel_rfl) (⟨G1.out.bf, X1.out, D.out, trivial⟩) (fun hH => ?k4b)
    refine takeL 0 (v := ?k4_1v) (by kernel_rfl) ?k4_1y (by rfl) (fun _ _ _ h => h) (by assumption) ?k4_1r
    case k4_1y => (intro u hF; (try dsimp only at hF); simp only [opD]; have hc := cell_of_row u Fb 0 _ _ _ hF; have hl := heap_lt hF; clear hF; go_simp; try with_reducible rfl)
    try simp only [opD, Act.put, List.setIfInBounds_toArray, List.set_cons_zero, List.set_cons_succ]
    refine takeP 1 (v := ?k4_2v) (by kernel_rfl) ?k4_2y (by rfl) (fun _ _ _ h => h) (by assumption) ?k4_2r
    case k4_2y => (intro u; simp only [opD]; go_simp; try with_reducible rfl)
    try simp only [opD, Act.put, List.setIfInBounds_toArray, List.set_cons_zero, List.set_cons_succ]
    refine takeL 2 (v := ?k4_3v) (by kernel_rfl) ?k4_3y (by rfl) (fun _ _ _ h => h) (by assumption) ?k4_3r
    case k4_3y => (intro u hF; (try dsimp only at hF); simp only [opD]; obtain ⟨y0, y1, y2, y3⟩ := box4t hF; have hl := heap_lt hF; clear hF; go_simp; try with_reducible rfl)
    try simp only [opD, Act.put, List.setIfInBounds_toArray, List.set_cons_zero, List.set_cons_succ]
    refine takeP 3 (v := ?k4_4v) (by kernel_rfl) ?k4_4y (by rfl) (fun _ _ _ h => h) (by assumption) ?k4_4r
    case k4_4y => (intro u; simp only [opD]; go_simp; try with_reducible rfl)
    try simp only [opD, Act.put, List.setIfInBounds_toArray, List.set_cons_zero, List.set_cons_succ]
    refine takeL 4 (v := ?k4_5v) (by kernel_rfl) ?k4_5y (by rfl) (fun _ _ _ h => h) (by assumption) ?k4_5r
    case k4_5y => (intro u hF; (try dsimp only at hF); simp only [opD]; obtain ⟨y0, y1, y2, y3⟩ := hF; go_simp; try with_reducible rfl)
    try simp only [opD, Act.put, List.setIfInBounds_toArray, List.set_cons_zero, List.set_cons_succ]
    refine readyAll (rs := [5]) (by kernel_rfl) (by simp) ?_
    refine readyF.cons [] (by kernel_rfl) (fun o hO K hK => ?k4_6a) ?k4_6n
    case k4_6a =>
     (simp only [opD] at hO); subst hO
     go_simp
     refine CI.out.mono ?_
     rintro e w2 ⟨rfl, P2, A2, m2, c2, qs2, hg2, hk2⟩
     refine hK.out _ _ ?k4_6s (fun hH => ?k4_6r)
     case k4_6s => trivial
     clear hK K
     try simp only [Act.put, List.setIfInBounds_toArray, List.set_cons_zero, List.set_cons_succ]
     refine readyDone (by kernel_rfl) ?_
     have G2 := Lib.hid hg2
     have K2 := Lib.hid (K1.out.trans ((Kq.of (Below.refl _ _).drew hBw1).trans hk2))
     have X2 := Lib.hid ((hk2.keep w.heap.size hl1 HNW.out.1 HNW.out.2).trans X1.out)
     have hBw2 : B ≤ w2.heap.size := Nat.le_trans hBw1 hk2.low.size
     have hl2 := heap_lt X2.out
     obtain ⟨_, _, _, _, _, _, hargs⟩ := (HV.out.low HS.out K2.out.low).args
     obtain ⟨g', j0, j1, j2, A1, m1, c1, hA1, _, hgl2, d0, d1, d2, d3, hta⟩ := hargs 1 (by omega)
     injection hA1 with hA1
     injection hA1 with hA1 _
     subst hA1
     simp only [Nat.one_mul] at d0 d1 d2 d3
     have D2 := Lib.hid (show w2.cell? ⟨g, 4, none⟩ = some (.int .i64 j0) ∧ w2.cell? ⟨g, 5, none⟩ = some (.int .i64 j1) ∧ w2.cell? ⟨g, 6, none⟩ = some (.string j2) ∧ w2.cell? ⟨g, 7, none⟩ = some (.slice A1 m1 c1) from ⟨d0, d1, d2, d3⟩)
     have CI2 := Lib.hid (IH.out 1 (HOK.out.arg (by omega)) Fb Ob B S P2 A2 m2 c2 (l ++ gatN (a 0)) (qs ++ qs2) _ w2.drew hBw2 hOB (by have := HLen.out; have := HNO.out; have := HG0.out.2.2; rw [List.length_append]; omega) (G2.out.below (Below.refl _ _).drew) (hta.below (Below.refl _ _).drew))
     clear hargs hta d0 d1 d2 d3 hg2 hk2 CI
     go_wp2_with fail
     refine regionF (fun k u => match k with | 0 => u.heap[Fb]? = some (.cells #[.func (.func 23) #[] #[.pointer (some ⟨Fb, 0, none⟩), .pointer (some ⟨Ob, 0, none⟩)]] 73 (0, 0)) | 2 => u.heap[w.heap.size]? = some (.cells #[.int .i64 4, .int .i64 n', .string s', .slice (some ⟨g, 0, none⟩) 2 c'] 39 (0, 0)) | 4 => u.cell? ⟨g, 4, none⟩ = some (.int .i64 j0) ∧ u.cell? ⟨g, 5, none⟩ = some (.int .i64 j1) ∧ u.cell? ⟨g, 6, none⟩ = some (.string j2) ∧ u.cell? ⟨g, 7, none⟩ = some (.slice A1 m1 c1) | _ => True) [0, 2, 4] (by kernel_rfl) (⟨G2.out.bf, X2.out, D2.out, trivial⟩) (fun hH => ?k5b)
     refine takeL 0 (v := ?k5_1v) (by kernel_rfl) ?k5_1y (by rfl) (fun _ _ _ h => h) (by assumption) ?k5_1r
     case k5_1y => (intro u hF; (try dsimp only at hF); simp only [opD]; have hc := cell_of_row u Fb 0 _ _ _ hF; have hl := heap_lt hF; clear hF; go_simp; try with_reducible rfl)
     try simp only [opD, Act.put, List.setIfInBounds_toArray, List.set_cons_zero, List.set_cons_succ]
     refine takeP 1 (v := ?k5_2v) (by kernel_rfl) ?k5_2y (by rfl) (fun _ _ _ h => h) (by assumption) ?k5_2r
     case k5_2y => (intro u; simp only [opD]; go_simp; try with_reducible rfl)
     try simp only [opD, Act.put, List.setIfInBounds_toArray, List.set_cons_zero, List.set_cons_succ]
     refine takeL 2 (v := ?k5_3v) (by kernel_rfl) ?k5_3y (by rfl) (fun _ _ _ h => h) (by assumption) ?k5_3r
     case k5_3y => (intro u hF; (try dsimp only at hF); simp only [opD]; obtain ⟨y0, y1, y2, y3⟩ := box4t hF; have hl := heap_lt hF; clear hF; go_simp; try with_reducible rfl)
     try simp only [opD, Act.put, List.setIfInBounds_toArray, List.set_cons_zero, List.set_cons_succ]
     refine takeP 3 (v := ?k5_4v) (by kernel_rfl) ?k5_4y (by rfl) (fun _ _ _ h => h) (by assumption) ?k5_4r
     case k5_4y => (intro u; simp only [opD]; go_simp; try with_reducible rfl)
     try simp only [opD, Act.put, List.setIfInBounds_toArray, List.set_cons_zero, List.set_cons_succ]
     refine takeL 4 (v := ?k5_5v) (by kernel_rfl) ?k5_5y (by rfl) (fun _ _ _ h => h) (by assumption) ?k5_5r
     case k5_5y => (intro u hF; (try dsimp only at hF); simp only [opD]; obtain ⟨y0, y1, y2, y3⟩ := hF; go_simp; try with_reducible rfl)
     try simp only [opD, Act.put, List.setIfInBounds_toArray, List.set_cons_zero, List.set_cons_succ]
     refine readyAll (rs := [5]) (by kernel_rfl) (by simp) ?_
     refine readyF.cons [] (by kernel_rfl) (fun o hO K hK => ?k5_6a) ?k5_6n
     case k5_6a =>
      (simp only [opD] at hO); subst hO
      go_simp
      refine CI2.out.mono ?_
      rintro e w8 ⟨rfl, P3, A3, m3, c3, qs3, hg3, hk3⟩
      have G3 := Lib.hid hg3
      have K3 := Lib.hid (K2.out.trans ((Kq.of (Below.refl _ _).drew hBw2).trans hk3))
      clear hg3 hk3 CI2
      refine hK.out _ _ ?k5_6s (fun hH => ?k5_6r)
      case k5_6s => trivial
      clear hK K
      try simp only [Act.put, List.setIfInBounds_toArray, List.set_cons_zero, List.set_cons_succ]
      refine readyDone (by kernel_rfl) ?_
      go_wp2_with fail
      refine bodyPost_ret (v := .tuple #[]) (by simp [results, go_sem]) rfl ?_
      refine ⟨rfl, P3, A3, m3, c3, qs2 ++ qs3, ?_, K3.out⟩
      rw [HGN.out, ← List.append_assoc, ← List.append_assoc]
      exact G3.out
     case k5_6n =>
      exact readyF.nil
    case k4_6n =>
     exact readyF.nil
   | false =>
    have hx1 := box4t X1.out
    go_upto_region 6 with fail
    go_cut [38] (fun s38 wx => s38 = .bool c2 ∧ w1 = wx)
    case first =>
     have hz2 := HZ2.out
     cases h1 : (z.toList == [116, 114, 117, 101]) with
     | false =>
      rw [h1] at hz2
      have HE := Lib.hid (show c2 = false from hz2.symm)
      clear hz2
      go_wp2_with fail
      go_meet
      exact ⟨by rw [HE.out], rfl⟩
     | true =>
      rw [h1] at hz2
      have HE := Lib.hid (show c2 = ((q : Int) == 0) from hz2.symm)
      clear hz2
      go_wp2_with fail
      go_meet
      exact ⟨by rw [HE.out], rfl⟩
    case rest =>
     obtain ⟨rfl, rfl⟩ := hcut
     cases c2 with
     | true =>
      go_wp2_with fail
      refine bodyPost_ret (v := .tuple #[]) (by simp [results, go_sem]) rfl ?_
      have e : gatN (.mk k' n' s' mm a) = [] := by unfold gatN; rw [HC1.out, HC2.out]; rfl
      refine ⟨rfl, P, A, m, c, [], ?_, K1.out⟩
      rw [e, List.append_nil, List.append_nil]
      exact G1.out
     | false =>
      obtain ⟨x0, x1, x2, x3⟩ := hx1
      cases h3 : (k' == 1) with
      | true =>
       have hk1 : k' = 1 := by simpa using h3
       have HG3 := Lib.hid (show gatN (.mk k' n' s' mm a) = [.mk 4 0 callW 1 fun _ => .mk k' n' s' mm a] by unfold gatN; rw [HC1.out, HC2.out]; simp [hk1])
       obtain ⟨itemI, jj1, jj2, jj3, jj4⟩ := elTerm.hi
       have hmlt : (m : Int) < (m : Int) + 1 := by omega
       have hm1 : m ≤ 100000 := by have := HLen.out; have := HM.out; omega
       have hBw1 : B ≤ w1.heap.size := by have := K1.out.low.size; have := HBw.out; omega
       have hww1 := B1.out.size
       have hq1 : qs.length = m := by rw [G1.out.tl.len, HM.out]
       clear hk1
       go_wp2_with fail
       clear x0 x1 x2 x3
       refine regionF (fun k u => match k with | 0 => u.heap[Ob]? = some (.cells #[.slice A m c] 35 (0, 0)) | 1 => u.heap[w.heap.size]? = some (.cells #[.int .i64 k', .int .i64 n', .string s', .slice A' mm c'] 39 (0, 0)) | _ => True) [0, 1] (by kernel_rfl) (⟨G1.out.bo, X1.out, trivial⟩) (fun hH => ?k8b)
       refine takeL 0 (v := ?k8_1v) (by kernel_rfl) ?k8_1y (by rfl) (fun _ _ _ h => h) (by assumption) ?k8_1r
       case k8_1y => (intro u hF; (try dsimp only at hF); simp only [opD]; have hc := cell_of_row u Ob 0 _ _ _ hF; have hl := heap_lt hF; clear hF; go_simp; try with_reducible rfl)
       try simp only [opD, Act.put, List.setIfInBounds_toArray, List.set_cons_zero, List.set_cons_succ]
       refine takeL 1 (v := ?k8_2v) (by kernel_rfl) ?k8_2y (by rfl) (fun _ _ _ h => h) (by assumption) ?k8_2r
       case k8_2y => (intro u hF; (try dsimp only at hF); simp only [opD]; obtain ⟨y0, y1, y2, y3⟩ := box4t hF; have hl := heap_lt hF; clear hF; go_simp; try with_reducible rfl)
       try simp only [opD, Act.put, List.setIfInBounds_toArray, List.set_cons_zero, List.set_cons_succ]
       refine takeP 4 (v := ?k8_3v) (by kernel_rfl) ?k8_3y (by rfl) (fun _ _ _ h => h) (by assumption) ?k8_3r
       case k8_3y => (intro u; simp only [opD]; go_simp; try with_reducible rfl)
       try simp only [opD, Act.put, List.setIfInBounds_toArray, List.set_cons_zero, List.set_cons_succ]
       refine readyAll (rs := [2, 5]) (by kernel_rfl) (by simp) ?_
       refine readyF.cons [0] (by kernel_rfl) (fun o hO K hK => ?k8_4a) ?k8_4n
       case k8_4a =>
        (simp only [opD] at hO); subst hO
        go_simp
        refine shutGo hK (fun u => Mk w1 u (.cells #[.int .i64 k', .int .i64 n', .string s', .slice A' mm c'] 39 (0, 0))) (Mk.alloc _ _) (fun u hu => ⟨(hu.low.block _ (heap_lt G1.out.bo)).trans G1.out.bo, trivial⟩) (fun w3 hu hH => ?k8_4r)
        clear hK K
        try simp only [Act.put, List.setIfInBounds_toArray, List.set_cons_zero, List.set_cons_succ]
        have M3 := Lib.hid hu
        have G3 := Lib.hid (G1.out.below hu.low)
        have X3 := Lib.hid ((hu.low.block _ hl1).trans X1.out)
        clear hu
        refine takeP 3 (v := ?k8_5v) (by kernel_rfl) ?k8_5y (by rfl) (fun _ _ _ h => h) (by assumption) ?k8_5r
        case k8_5y => (intro u; simp only [opD]; go_simp; try with_reducible rfl)
        try simp only [opD, Act.put, List.setIfInBounds_toArray, List.set_cons_zero, List.set_cons_succ]
        refine readyAll (rs := [5]) (by kernel_rfl) (by simp) ?_
        refine readyF.cons [0] (by kernel_rfl) (fun o hO K hK => ?k8_6a) ?k8_6n
        case k8_6a =>
         (simp only [opD] at hO); subst hO
         go_simp
         refine shutGo hK (fun u => Mk w3 u (.cells #[.int .i64 0, .int .i64 0, .string ⟨#[]⟩, .slice none 0 0] 39 (0, 0))) (Mk.alloc2 _ _) (fun u hu => ⟨(hu.low.block _ (heap_lt G3.out.bo)).trans G3.out.bo, trivial⟩) (fun w4 hu hH => ?k8_6r)
         clear hK K
         try simp only [Act.put, List.setIfInBounds_toArray, List.set_cons_zero, List.set_cons_succ]
         have M4 := Lib.hid hu
         have G4 := Lib.hid (G3.out.below hu.low)
         clear hu
         have O4 := Lib.hid (show w4.ownsRow B 39 4 (.slice A m c) m (qCells qs) by have := G4.out.tl.own; rw [← HM.out] at this; exact this)
         have Z4 := Lib.hid M4.out.new
         have A4 := Lib.hid ((M4.out.low.block _ (by have := M3.out.sz; omega)).trans M3.out.new)
         have L4 := Lib.hid (M3.out.low.trans (M4.out.low.mono (by have := M3.out.sz; omega)))
         refine readyAll (rs := [6]) (by kernel_rfl) (by simp) ?_
         refine readyF.cons [] (by kernel_rfl) (fun o hO K hK => ?k8_7a) ?k8_7n
         case k8_7a =>
          (simp only [opD] at hO); subst hO
          refine step_append_lies _ rfl _ _ _ rfl B 39 itemI (.agg #[.int .i64 0, .int .i64 0, .string ⟨#[]⟩, .slice none 0 0]) 4 56 Tryz.underlying35 jj1 jj2 jj3 jj4 rfl (by omega) (.slice A m c) m (qCells qs) rfl O4.out ⟨w3.heap.size, 0, none⟩ 1 1 [.int .i64 0, .int .i64 0, .string ⟨#[]⟩, .slice none 0 0] rfl rfl (World.news_of_block Z4.out) ?sm25 (by omega) (by unfold maxLen; omega) (by omega) (by have := L4.out.size; omega) _ rfl ?_
          case sm25 => (intro u hu; simp only [List.mem_cons, List.not_mem_nil, or_false] at hu; rcases hu with rfl | rfl | rfl | rfl <;> rfl)
          intro g1 cap1 w5 hown1 hg1 hat1 hlt1
          refine hK.out _ _ ?k8_7s (fun hH => ?k8_7r)
          case k8_7s => trivial
          clear hK K
          try simp only [Act.put, List.setIfInBounds_toArray, List.set_cons_zero, List.set_cons_succ]
          have HO5 := Lib.hid hown1
          have HG5 := Lib.hid hg1
          have HA5 := Lib.hid hat1
          have hg1O := Gb.neO G4.out hown1 hg1 hat1
          obtain ⟨c0, c1, c2, c3, fz, _⟩ := row_last hown1 hq1
          have b5 := hg1O.2
          have cO := cell_of_row w5 Ob 0 _ _ _ b5
          have fO : ∀ i, w5.frozen? ⟨Ob, i, none⟩ = false := fun i => by simp [World.frozen?, b5]
          have lO := heap_lt b5
          have nO1 := hg1O.1
          have nO2 := Ne.symm hg1O.1
          clear hown1 hg1 hat1 hg1O b5
          refine takeP 7 (v := ?k8_8v) (by kernel_rfl) ?k8_8y (by rfl) (fun _ _ _ h => h) (by assumption) ?k8_8r
          case k8_8y => (intro u; simp only [opD]; go_simp; try with_reducible rfl)
          try simp only [opD, Act.put, List.setIfInBounds_toArray, List.set_cons_zero, List.set_cons_succ]
          refine readyAll (rs := [8, 9]) (by kernel_rfl) (by simp) ?_
          refine readyF.cons [] (by kernel_rfl) (fun o hO K hK => ?k8_9a) ?k8_9n
          case k8_9a =>
           (simp only [opD] at hO); subst hO
           go_simp
           refine hK.out _ _ ?k8_9s (fun hH => ?k8_9r)
           case k8_9s => trivial
           clear hK K
           try simp only [Act.put, List.setIfInBounds_toArray, List.set_cons_zero, List.set_cons_succ]
           refine readyAll (rs := [9]) (by kernel_rfl) (by simp) ?_
           refine readyF.cons [] (by kernel_rfl) (fun o hO K hK => ?k8_10a) ?k8_10n
           case k8_10a =>
            (simp only [opD] at hO); subst hO
            go_simp
            refine hK.out _ _ ?k8_10s (fun hH => ?k8_10r)
            case k8_10s => trivial
            clear hK K
            try simp only [Act.put, List.setIfInBounds_toArray, List.set_cons_zero, List.set_cons_succ]
            refine readyDone (by kernel_rfl) ?_
            go_wp2_with fail
            refine bodyPost_ret (v := .tuple #[]) (by simp [results, go_sem]) rfl ?_
            have HT4 := Lib.hid (tp_one (P := fun b => b = w1.heap.size) (q := ⟨k', n', s', A', mm, c'⟩) (nm := callW) A4.out rfl (HV1.out.below L4.out))
            obtain ⟨p1, p2⟩ := Gb.put (P2 := fun b => b = w1.heap.size) G1.out (t := .mk 4 0 callW 1 fun _ => .mk k' n' s' mm a) ⟨4, 0, callW, some ⟨w1.heap.size, 0, none⟩, 1, 1⟩ L4.out hBw1 hOB HT4.out (fun b h => by have := M3.out.sz; have := M4.out.sz; subst h; omega) HO5.out HG5.out HA5.out (.inl rfl)
            exact ⟨rfl, _, _, _, _, _, by rw [HG3.out]; exact p1, K1.out.trans p2⟩
           case k8_10n =>
            exact readyF.nil
          case k8_9n =>
           refine readyF.cons [] (by kernel_rfl) (fun o hO K hK => ?k8_11a) ?k8_11n
           case k8_11a =>
            (simp only [opD] at hO); subst hO
            go_simp
            refine hK.out _ _ ?k8_11s (fun hH => ?k8_11r)
            case k8_11s => trivial
            clear hK K
            try simp only [Act.put, List.setIfInBounds_toArray, List.set_cons_zero, List.set_cons_succ]
            refine readyAll (rs := [8]) (by kernel_rfl) (by simp) ?_
            refine readyF.cons [] (by kernel_rfl) (fun o hO K hK => ?k8_12a) ?k8_12n
            case k8_12a =>
             (simp only [opD] at hO); subst hO
             go_simp
             refine hK.out _ _ ?k8_12s (fun hH => ?k8_12r)
             case k8_12s => trivial
             clear hK K
             try simp only [Act.put, List.setIfInBounds_toArray, List.set_cons_zero, List.set_cons_succ]
             refine readyDone (by kernel_rfl) ?_
             go_wp2_with fail
             refine bodyPost_ret (v := .tuple #[]) (by simp [results, go_sem]) rfl ?_
             have HT4 := Lib.hid (tp_one (P := fun b => b = w1.heap.size) (q := ⟨k', n', s', A', mm, c'⟩) (nm := callW) A4.out rfl (HV1.out.below L4.out))
             obtain ⟨p1, p2⟩ := Gb.put (P2 := fun b => b = w1.heap.size) G1.out (t := .mk 4 0 callW 1 fun _ => .mk k' n' s' mm a) ⟨4, 0, callW, some ⟨w1.heap.size, 0, none⟩, 1, 1⟩ L4.out hBw1 hOB HT4.out (fun b h => by have := M3.out.sz; have := M4.out.sz; subst h; omega) HO5.out HG5.out HA5.out (.inr rfl)
             exact ⟨rfl, _, _, _, _, _, by rw [HG3.out]; exact p1, K1.out.trans p2⟩
            case k8_12n =>
             exact readyF.nil
           case k8_11n =>
            exact readyF.nil
         case k8_7n =>
          exact readyF.nil
        case k8_6n =>
         exact readyF.nil
       case k8_4n =>
        refine readyF.cons [0, 1] (by kernel_rfl) (fun o hO K hK => ?k8_13a) ?k8_13n
        case k8_13a =>
         (simp only [opD] at hO); subst hO
         go_simp
         refine shutGo hK (fun u => Mk w1 u (.cells #[.int .i64 0, .int .i64 0, .string ⟨#[]⟩, .slice none 0 0] 39 (0, 0))) (Mk.alloc _ _) (fun u hu => ⟨(hu.low.block _ (heap_lt G1.out.bo)).trans G1.out.bo, (hu.low.block _ hl1).trans X1.out, trivial⟩) (fun w3 hu hH => ?k8_13r)
         clear hK K
         try simp only [Act.put, List.setIfInBounds_toArray, List.set_cons_zero, List.set_cons_succ]
         have M3 := Lib.hid hu
         have G3 := Lib.hid (G1.out.below hu.low)
         have X3 := Lib.hid ((hu.low.block _ hl1).trans X1.out)
         clear hu
         refine readyAll (rs := [2]) (by kernel_rfl) (by simp) ?_
         refine readyF.cons [0] (by kernel_rfl) (fun o hO K hK => ?k8_14a) ?k8_14n
         case k8_14a =>
          (simp only [opD] at hO); subst hO
          go_simp
          refine shutGo hK (fun u => Mk w3 u (.cells #[.int .i64 k', .int .i64 n', .string s', .slice A' mm c'] 39 (0, 0))) (Mk.alloc2 _ _) (fun u hu => ⟨(hu.low.block _ (heap_lt G3.out.bo)).trans G3.out.bo, trivial⟩) (fun w4 hu hH => ?k8_14r)
          clear hK K
          try simp only [Act.put, List.setIfInBounds_toArray, List.set_cons_zero, List.set_cons_succ]
          have M4 := Lib.hid hu
          have G4 := Lib.hid (G3.out.below hu.low)
          clear hu
          have O4 := Lib.hid (show w4.ownsRow B 39 4 (.slice A m c) m (qCells qs) by have := G4.out.tl.own; rw [← HM.out] at this; exact this)
          have Z4 := Lib.hid ((M4.out.low.block _ (by have := M3.out.sz; omega)).trans M3.out.new)
          have A4 := Lib.hid M4.out.new
          have L4 := Lib.hid (M3.out.low.trans (M4.out.low.mono (by have := M3.out.sz; omega)))
          refine takeP 3 (v := ?k8_15v) (by kernel_rfl) ?k8_15y (by rfl) (fun _ _ _ h => h) (by assumption) ?k8_15r
          case k8_15y => (intro u; simp only [opD]; go_simp; try with_reducible rfl)
          try simp only [opD, Act.put, List.setIfInBounds_toArray, List.set_cons_zero, List.set_cons_succ]
          refine readyAll (rs := [6]) (by kernel_rfl) (by simp) ?_
          refine readyF.cons [] (by kernel_rfl) (fun o hO K hK => ?k8_16a) ?k8_16n
          case k8_16a =>
           (simp only [opD] at hO); subst hO
           refine step_append_lies _ rfl _ _ _ rfl B 39 itemI (.agg #[.int .i64 0, .int .i64 0, .string ⟨#[]⟩, .slice none 0 0]) 4 56 Tryz.underlying35 jj1 jj2 jj3 jj4 rfl (by omega) (.slice A m c) m (qCells qs) rfl O4.out ⟨w1.heap.size, 0, none⟩ 1 1 [.int .i64 0, .int .i64 0, .string ⟨#[]⟩, .slice none 0 0] rfl rfl (World.news_of_block Z4.out) ?sm52 (by omega) (by unfold maxLen; omega) (by omega) (by have := L4.out.size; omega) _ rfl ?_
           case sm52 => (intro u hu; simp only [List.mem_cons, List.not_mem_nil, or_false] at hu; rcases hu with rfl | rfl | rfl | rfl <;> rfl)
           intro g1 cap1 w5 hown1 hg1 hat1 hlt1
           refine hK.out _ _ ?k8_16s (fun hH => ?k8_16r)
           case k8_16s => trivial
           clear hK K
           try simp only [Act.put, List.setIfInBounds_toArray, List.set_cons_zero, List.set_cons_succ]
           have HO5 := Lib.hid hown1
           have HG5 := Lib.hid hg1
           have HA5 := Lib.hid hat1
           have hg1O := Gb.neO G4.out hown1 hg1 hat1
           obtain ⟨c0, c1, c2, c3, fz, _⟩ := row_last hown1 hq1
           have b5 := hg1O.2
           have cO := cell_of_row w5 Ob 0 _ _ _ b5
           have fO : ∀ i, w5.frozen? ⟨Ob, i, none⟩ = false := fun i => by simp [World.frozen?, b5]
           have lO := heap_lt b5
           have nO1 := hg1O.1
           have nO2 := Ne.symm hg1O.1
           clear hown1 hg1 hat1 hg1O b5
           refine takeP 7 (v := ?k8_17v) (by kernel_rfl) ?k8_17y (by rfl) (fun _ _ _ h => h) (by assumption) ?k8_17r
           case k8_17y => (intro u; simp only [opD]; go_simp; try with_reducible rfl)
           try simp only [opD, Act.put, List.setIfInBounds_toArray, List.set_cons_zero, List.set_cons_succ]
           refine readyAll (rs := [8, 9]) (by kernel_rfl) (by simp) ?_
           refine readyF.cons [] (by kernel_rfl) (fun o hO K hK => ?k8_18a) ?k8_18n
           case k8_18a =>
            (simp only [opD] at hO); subst hO
            go_simp
            refine hK.out _ _ ?k8_18s (fun hH => ?k8_18r)
            case k8_18s => trivial
            clear hK K
            try simp only [Act.put, List.setIfInBounds_toArray, List.set_cons_zero, List.set_cons_succ]
            refine readyAll (rs := [9]) (by kernel_rfl) (by simp) ?_
            refine readyF.cons [] (by kernel_rfl) (fun o hO K hK => ?k8_19a) ?k8_19n
            case k8_19a =>
             (simp only [opD] at hO); subst hO
             go_simp
             refine hK.out _ _ ?k8_19s (fun hH => ?k8_19r)
             case k8_19s => trivial
             clear hK K
             try simp only [Act.put, List.setIfInBounds_toArray, List.set_cons_zero, List.set_cons_succ]
             refine readyDone (by kernel_rfl) ?_
             go_wp2_with fail
             refine bodyPost_ret (v := .tuple #[]) (by simp [results, go_sem]) rfl ?_
             have HT4 := Lib.hid (tp_one (P := fun b => b = w3.heap.size) (q := ⟨k', n', s', A', mm, c'⟩) (nm := callW) A4.out rfl (HV1.out.below L4.out))
             obtain ⟨p1, p2⟩ := Gb.put (P2 := fun b => b = w3.heap.size) G1.out (t := .mk 4 0 callW 1 fun _ => .mk k' n' s' mm a) ⟨4, 0, callW, some ⟨w3.heap.size, 0, none⟩, 1, 1⟩ L4.out hBw1 hOB HT4.out (fun b h => by have := M3.out.sz; have := M4.out.sz; subst h; omega) HO5.out HG5.out HA5.out (.inl rfl)
             exact ⟨rfl, _, _, _, _, _, by rw [HG3.out]; exact p1, K1.out.trans p2⟩
            case k8_19n =>
             exact readyF.nil
           case k8_18n =>
            refine readyF.cons [] (by kernel_rfl) (fun o hO K hK => ?k8_20a) ?k8_20n
            case k8_20a =>
             (simp only [opD] at hO); subst hO
             go_simp
             refine hK.out _ _ ?k8_20s (fun hH => ?k8_20r)
             case k8_20s => trivial
             clear hK K
             try simp only [Act.put, List.setIfInBounds_toArray, List.set_cons_zero, List.set_cons_succ]
             refine readyAll (rs := [8]) (by kernel_rfl) (by simp) ?_
             refine readyF.cons [] (by kernel_rfl) (fun o hO K hK => ?k8_21a) ?k8_21n
             case k8_21a =>
              (simp only [opD] at hO); subst hO
              go_simp
              refine hK.out _ _ ?k8_21s (fun hH => ?k8_21r)
              case k8_21s => trivial
              clear hK K
              try simp only [Act.put, List.setIfInBounds_toArray, List.set_cons_zero, List.set_cons_succ]
              refine readyDone (by kernel_rfl) ?_
              go_wp2_with fail
              refine bodyPost_ret (v := .tuple #[]) (by simp [results, go_sem]) rfl ?_
              have HT4 := Lib.hid (tp_one (P := fun b => b = w3.heap.size) (q := ⟨k', n', s', A', mm, c'⟩) (nm := callW) A4.out rfl (HV1.out.below L4.out))
              obtain ⟨p1, p2⟩ := Gb.put (P2 := fun b => b = w3.heap.size) G1.out (t := .mk 4 0 callW 1 fun _ => .mk k' n' s' mm a) ⟨4, 0, callW, some ⟨w3.heap.size, 0, none⟩, 1, 1⟩ L4.out hBw1 hOB HT4.out (fun b h => by have := M3.out.sz; have := M4.out.sz; subst h; omega) HO5.out HG5.out HA5.out (.inr rfl)
              exact ⟨rfl, _, _, _, _, _, by rw [HG3.out]; exact p1, K1.out.trans p2⟩
             case k8_21n =>
              exact readyF.nil
            case k8_20n =>
             exact readyF.nil
          case k8_16n =>
           exact readyF.nil
         case k8_14n =>
          exact readyF.nil
        case k8_13n =>
         exact readyF.nil
      | false =>
       have HG3 := Lib.hid (show gatN (.mk k' n' s' mm a) = [.mk k' n' s' mm a] by unfold gatN; rw [HC1.out, HC2.out]; have : k' ≠ 1 := (by simpa using h3); simp [this])
       obtain ⟨itemI, jj1, jj2, jj3, jj4⟩ := elTerm.hi
       have hmlt : (m : Int) < (m : Int) + 1 := by omega
       have hm1 : m ≤ 100000 := by have := HLen.out; have := HM.out; omega
       have hBw1 : B ≤ w1.heap.size := by have := K1.out.low.size; have := HBw.out; omega
       have hq1 : qs.length = m := by rw [G1.out.tl.len, HM.out]
       go_wp2_with fail
       clear x0 x1 x2 x3
       refine regionF (fun k u => match k with | 0 => u.heap[Ob]? = some (.cells #[.slice A m c] 35 (0, 0)) | 1 => u.heap[w.heap.size]? = some (.cells #[.int .i64 k', .int .i64 n', .string s', .slice A' mm c'] 39 (0, 0)) | _ => True) [0, 1] (by kernel_rfl) (⟨G1.out.bo, X1.out, trivial⟩) (fun hH => ?g2b)
       refine takeL 0 (v := ?g2_1v) (by kernel_rfl) ?g2_1y (by rfl) (fun _ _ _ h => h) (by assumption) ?g2_1r
       case g2_1y => (intro u hF; (try dsimp only at hF); simp only [opD]; have hc := cell_of_row u Ob 0 _ _ _ hF; have hl := heap_lt hF; clear hF; go_simp; try with_reducible rfl)
       try simp only [opD, Act.put, List.setIfInBounds_toArray, List.set_cons_zero, List.set_cons_succ]
       refine takeL 1 (v := ?g2_2v) (by kernel_rfl) ?g2_2y (by rfl) (fun _ _ _ h => h) (by assumption) ?g2_2r
       case g2_2y => (intro u hF; (try dsimp only at hF); simp only [opD]; obtain ⟨y0, y1, y2, y3⟩ := box4t hF; have hl := heap_lt hF; clear hF; go_simp; try with_reducible rfl)
       try simp only [opD, Act.put, List.setIfInBounds_toArray, List.set_cons_zero, List.set_cons_succ]
       refine takeP 2 (v := ?g2_3v) (by kernel_rfl) ?g2_3y (by rfl) (fun _ _ _ h => h) (by assumption) ?g2_3r
       case g2_3y => (intro u; simp only [opD]; go_simp; try with_reducible rfl)
       try simp only [opD, Act.put, List.setIfInBounds_toArray, List.set_cons_zero, List.set_cons_succ]
       refine readyAll (rs := [3]) (by kernel_rfl) (by simp) ?_
       refine readyF.cons [0, 1] (by kernel_rfl) (fun o hO K hK => ?g2_4a) ?g2_4n
       case g2_4a =>
        (simp only [opD] at hO); subst hO
        go_simp
        refine shutGo hK (fun u => Mk w1 u (.cells #[.int .i64 0, .int .i64 0, .string ⟨#[]⟩, .slice none 0 0] 39 (0, 0))) (Mk.alloc _ _) (fun u hu => ⟨(hu.low.block _ (heap_lt G1.out.bo)).trans G1.out.bo, (hu.low.block _ hl1).trans X1.out, trivial⟩) (fun w3 hu hH => ?g2_4r)
        clear hK K
        try simp only [Act.put, List.setIfInBounds_toArray, List.set_cons_zero, List.set_cons_succ]
        have M3 := Lib.hid hu
        have G3 := Lib.hid (G1.out.below hu.low)
        have O3 := Lib.hid (show w3.ownsRow B 39 4 (.slice A m c) m (qCells qs) by have := G3.out.tl.own; rw [← HM.out] at this; exact this)
        clear hu
        refine readyAll (rs := [4]) (by kernel_rfl) (by simp) ?_
        refine readyF.cons [] (by kernel_rfl) (fun o hO K hK => ?g2_5a) ?g2_5n
        case g2_5a =>
         (simp only [opD] at hO); subst hO
         refine step_append_lies _ rfl _ _ _ rfl B 39 itemI (.agg #[.int .i64 0, .int .i64 0, .string ⟨#[]⟩, .slice none 0 0]) 4 56 Tryz.underlying35 jj1 jj2 jj3 jj4 rfl (by omega) (.slice A m c) m (qCells qs) rfl O3.out ⟨w1.heap.size, 0, none⟩ 1 1 [.int .i64 0, .int .i64 0, .string ⟨#[]⟩, .slice none 0 0] rfl rfl (World.news_of_block M3.out.new) ?sm (by omega) (by unfold maxLen; omega) (by omega) (by have := M3.out.low.size; omega) _ rfl ?_
         case sm => (intro u hu; simp only [List.mem_cons, List.not_mem_nil, or_false] at hu; rcases hu with rfl | rfl | rfl | rfl <;> rfl)
         intro g1 cap1 w5 hown1 hg1 hat1 hlt1
         refine hK.out _ _ ?g2_5s (fun hH => ?g2_5r)
         case g2_5s => trivial
         clear hK K
         try simp only [Act.put, List.setIfInBounds_toArray, List.set_cons_zero, List.set_cons_succ]
         have HO5 := Lib.hid hown1
         have HG5 := Lib.hid hg1
         have HA5 := Lib.hid hat1
         have hg1O := Gb.neO G3.out hown1 hg1 hat1
         obtain ⟨c0, c1, c2, c3, fz, _⟩ := row_last hown1 hq1
         have b5 := hg1O.2
         have cO := cell_of_row w5 Ob 0 _ _ _ b5
         have fO : ∀ i, w5.frozen? ⟨Ob, i, none⟩ = false := fun i => by simp [World.frozen?, b5]
         have lO := heap_lt b5
         have nO1 := hg1O.1
         have nO2 := Ne.symm hg1O.1
         clear hown1 hg1 hat1 hg1O b5
         refine takeP 5 (v := ?g2_6v) (by kernel_rfl) ?g2_6y (by rfl) (fun _ _ _ h => h) (by assumption) ?g2_6r
         case g2_6y => (intro u; simp only [opD]; go_simp; try with_reducible rfl)
         try simp only [opD, Act.put, List.setIfInBounds_toArray, List.set_cons_zero, List.set_cons_succ]
         refine readyAll (rs := [6, 7]) (by kernel_rfl) (by simp) ?_
         refine readyF.cons [] (by kernel_rfl) (fun o hO K hK => ?g2_7a) ?g2_7n
         case g2_7a =>
          (simp only [opD] at hO); subst hO
          go_simp
          refine hK.out _ _ ?g2_7s (fun hH => ?g2_7r)
          case g2_7s => trivial
          clear hK K
          try simp only [Act.put, List.setIfInBounds_toArray, List.set_cons_zero, List.set_cons_succ]
          refine readyAll (rs := [7]) (by kernel_rfl) (by simp) ?_
          refine readyF.cons [] (by kernel_rfl) (fun o hO K hK => ?g2_8a) ?g2_8n
          case g2_8a =>
           (simp only [opD] at hO); subst hO
           go_simp
           refine hK.out _ _ ?g2_8s (fun hH => ?g2_8r)
           case g2_8s => trivial
           clear hK K
           try simp only [Act.put, List.setIfInBounds_toArray, List.set_cons_zero, List.set_cons_succ]
           refine readyDone (by kernel_rfl) ?_
           go_wp2_with fail
           refine bodyPost_ret (v := .tuple #[]) (by simp [results, go_sem]) rfl ?_
           obtain ⟨p1, p2⟩ := Gb.put (P2 := fun _ => False) G1.out (t := .mk k' n' s' mm a) ⟨k', n', s', A', mm, c'⟩ M3.out.low hBw1 hOB ((HV1.out.below M3.out.low).more fun b hb => .inl hb) (fun _ h => h.elim) HO5.out HG5.out HA5.out (.inl rfl)
           exact ⟨rfl, _, _, _, _, _, by rw [HG3.out]; exact p1, K1.out.trans p2⟩
          case g2_8n =>
           exact readyF.nil
         case g2_7n =>
          refine readyF.cons [] (by kernel_rfl) (fun o hO K hK => ?g2_9a) ?g2_9n
          case g2_9a =>
           (simp only [opD] at hO); subst hO
           go_simp
           refine hK.out _ _ ?g2_9s (fun hH => ?g2_9r)
           case g2_9s => trivial
           clear hK K
           try simp only [Act.put, List.setIfInBounds_toArray, List.set_cons_zero, List.set_cons_succ]
           refine readyAll (rs := [6]) (by kernel_rfl) (by simp) ?_
           refine readyF.cons [] (by kernel_rfl) (fun o hO K hK => ?g2_10a) ?g2_10n
           case g2_10a =>
            (simp only [opD] at hO); subst hO
            go_simp
            refine hK.out _ _ ?g2_10s (fun hH => ?g2_10r)
            case g2_10s => trivial
            clear hK K
            try simp only [Act.put, List.setIfInBounds_toArray, List.set_cons_zero, List.set_cons_succ]
            refine readyDone (by kernel_rfl) ?_
            go_wp2_with fail
            refine bodyPost_ret (v := .tuple #[]) (by simp [results, go_sem]) rfl ?_
            obtain ⟨p1, p2⟩ := Gb.put (P2 := fun _ => False) G1.out (t := .mk k' n' s' mm a) ⟨k', n', s', A', mm, c'⟩ M3.out.low hBw1 hOB ((HV1.out.below M3.out.low).more fun b hb => .inl hb) (fun _ h => h.elim) HO5.out HG5.out HA5.out (.inr rfl)
            exact ⟨rfl, _, _, _, _, _, by rw [HG3.out]; exact p1, K1.out.trans p2⟩
           case g2_10n =>
            exact readyF.nil
          case g2_9n =>
           exact readyF.nil
        case g2_5n =>
         exact readyF.nil
       case g2_4n =>
        exact readyF.nil
end Go.Proofs.YtibcpdmeigdgpaaGreatDoor
