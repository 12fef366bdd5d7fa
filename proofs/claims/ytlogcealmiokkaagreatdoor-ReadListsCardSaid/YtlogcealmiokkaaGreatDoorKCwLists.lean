/- The walk of ReadLists. -/
import Derived.Test.YtlogcealmiokkaaGreatDoorKGu
import Derived.Test.YtlogcealmiokkaaGreatDoorKGv
import Derived.Test.YtlogcealmiokkaaGreatDoorKCwNums
namespace Go.Proofs.YtlogcealmiokkaaGreatDoor
open Go.RowKit
def dgS : ByteArray := ⟨#[48, 49, 50, 51, 52, 53, 54, 55, 56, 57]⟩
def dsL (l : List Int) : List Nat := l.map fun x => (x % 10).toNat
theorem ds_lt (l : List Int) : ∀ d ∈ dsL l, d < 10 := by
 intro d hd
 simp only [dsL, List.mem_map] at hd
 obtain ⟨x, _, rfl⟩ := hd
 omega
theorem dg_at : ∀ d, d < 10 → (dgS.extract d (d + 1)).data.toList = [dB d] := by decide +kernel
theorem tail_snoc : ∀ (l : List Nat) (d : Nat), tailL (l ++ [d]) = tailL l ++ [44, 97, dB d]
 | [], _ => rfl
 | x :: l, d => by
  show [44, 97, dB x] ++ tailL (l ++ [d]) = [44, 97, dB x] ++ tailL l ++ _
  rw [tail_snoc l d, List.append_assoc]
theorem body_snoc (l : List Nat) (d : Nat) : bodyL (l ++ [d]) = bodyL l ++ ((if l = [] then [] else [44]) ++ [97, dB d]) := by
 cases l with
 | nil => rfl
 | cons x l =>
  rw [if_neg (by simp)]
  show [97, dB x] ++ tailL (l ++ [d]) = [97, dB x] ++ tailL l ++ _
  rw [tail_snoc l d, List.append_assoc]
  rfl
theorem next_text {l : List Int} {i : Nat} {x : Int} {d : Nat} (hx : l[i]? = some x) (hd : (x % 10).toNat = d) : bodyL (dsL (l.take (i + 1))) = bodyL (dsL (l.take i)) ++ ((if i = 0 then [] else [44]) ++ [97, dB d]) := by
 have hl : i < l.length := (List.getElem?_eq_some_iff.1 hx).1
 have e : dsL (l.take (i + 1)) = dsL (l.take i) ++ [d] := by
  unfold dsL
  rw [List.take_add_one, hx, List.map_append]
  show _ ++ [(x % 10).toNat] = _
  rw [hd]
 rw [e, body_snoc]
 by_cases h0 : i = 0
 ·subst h0
  rfl
 ·rw [if_neg h0, if_neg]
  intro h
  have h9 : (dsL (l.take i)).length = 0 := by rw [h]; rfl
  rw [dsL, List.length_map, List.length_take] at h9
  omega
theorem text_a {s : ByteArray} {l : List Int} {i d : Nat} {x : Int} (hs : s.data.toList = 91 :: bodyL (dsL (l.take i))) (hx : l[i]? = some x) (hd : (x % 10).toNat = d) (hd10 : d < 10) (h0 : i = 0) :
 (s ++ ⟨#[97]⟩ ++ dgS.extract d (d + 1)).data.toList = 91 :: bodyL (dsL (l.take (i + 1))) := by
 rw [next_text hx hd, if_pos h0, ByteArray.data_append, Array.toList_append, ByteArray.data_append, Array.toList_append, hs, dg_at d hd10]
 simp
theorem text_b {s : ByteArray} {l : List Int} {i d : Nat} {x : Int} (hs : s.data.toList = 91 :: bodyL (dsL (l.take i))) (hx : l[i]? = some x) (hd : (x % 10).toNat = d) (hd10 : d < 10) (h0 : i ≠ 0) :
 (s ++ ⟨#[44]⟩ ++ ⟨#[97]⟩ ++ dgS.extract d (d + 1)).data.toList = 91 :: bodyL (dsL (l.take (i + 1))) := by
 rw [next_text hx hd, if_neg h0, ByteArray.data_append, Array.toList_append, ByteArray.data_append, Array.toList_append, ByteArray.data_append, Array.toList_append, hs, dg_at d hd10]
 simp
theorem dg_size (d : Nat) (h : d < 10) : (dgS.extract d (d + 1)).size = 1 := by rw [← len_u, dg_at d h]; rfl
theorem name_eq (d : Nat) (h : d < 10) : aS d = ⟨#[97]⟩ ++ dgS.extract d (d + 1) := by
 refine (ba_ext ?_).symm
 rw [ByteArray.data_append, Array.toList_append, dg_at d h]
 rfl
theorem ds_nil {l : List Int} : dsL l = [] ↔ l.length = 0 := by
 rw [dsL, List.map_eq_nil_iff, List.length_eq_zero_iff]
theorem end_a {s : ByteArray} {l : List Int} {rest : Bool} (hs : s.data.toList = 91 :: bodyL (dsL l)) (h : rest = false ∨ l.length = 0) : s ++ ⟨#[93]⟩ = ba (listD rest (dsL l)) := by
 refine ba_ext ?_
 rw [ByteArray.data_append, Array.toList_append, hs]
 unfold listD
 rcases h with rfl | h
 ·simp [restW]
 ·rw [if_pos (ds_nil.2 h)]
  simp
theorem end_b {s : ByteArray} {l : List Int} (hs : s.data.toList = 91 :: bodyL (dsL l)) (h : 0 < l.length) : s ++ ⟨#[124, 122]⟩ ++ ⟨#[93]⟩ = ba (listD true (dsL l)) := by
 refine ba_ext ?_
 rw [ByteArray.data_append, Array.toList_append, ByteArray.data_append, Array.toList_append, hs]
 unfold listD
 rw [if_neg (fun e => by have := ds_nil.1 e; omega)]
 simp [restW]
theorem ds_drop {l : List Int} {i : Nat} {x : Int} {d : Nat} (hx : l[i]? = some x) (hd : (x % 10).toNat = d) : (dsL l).drop i = d :: (dsL l).drop (i + 1) := by
 have hl : i < (dsL l).length := by rw [dsL, List.length_map]; exact (List.getElem?_eq_some_iff.1 hx).1
 rw [List.drop_eq_getElem_cons hl]
 congr 1
 obtain ⟨_, e⟩ := List.getElem?_eq_some_iff.1 hx
 simp only [dsL, List.getElem_map, e, hd]
theorem agg4 {a0 a1 b0 b1 : Int} {a2 b2 : ByteArray} {A B : Option Addr} {m c m' c' : Nat} (h : Value.agg #[.int .i64 a0, .int .i64 a1, .string a2, .slice A m c] = .agg #[.int .i64 b0, .int .i64 b1, .string b2, .slice B m' c']) : a0 = b0 ∧ a1 = b1 ∧ a2 = b2 ∧ A = B ∧ m = m' ∧ c = c' := by
 injection h with e
 simp only [Array.mk.injEq, List.cons.injEq, and_true] at e
 obtain ⟨e0, e1, e2, e3⟩ := e
 injection e0 with _ e0
 injection e1 with _ e1
 injection e2 with e2
 injection e3 with e3 e4 e5
 exact ⟨e0, e1, e2, e3, e4, e5⟩
theorem leaf_at {w : World} {B : Nat} {s q2 : ByteArray} {q0 q1 : Int} {Q : Option Addr} {q4 q5 : Nat} (h : TIn w B (atT s) (.agg #[.int .i64 q0, .int .i64 q1, .string q2, .slice Q q4 q5])) : q0 = 3 ∧ q2 = s := by
 obtain ⟨A, c, e, _⟩ := h
 obtain ⟨rfl, _, rfl, _⟩ := agg4 e
 exact ⟨rfl, rfl⟩
theorem node_at {w : World} {B : Nat} {rr : Bool} {d : Nat} {ds : List Nat} {q2 : ByteArray} {q0 q1 : Int} {Q : Option Addr} {q4 q5 : Nat} (h : TIn w B (lsD rr (d :: ds)) (.agg #[.int .i64 q0, .int .i64 q1, .string q2, .slice Q q4 q5])) :
 q0 = 4 ∧ q1 = 0 ∧ q2 = ⟨#[46]⟩ ∧ q4 = 2 ∧ 2 ≤ q5 ∧ ∃ b off, Q = some ⟨b, off, none⟩ ∧ b < B ∧ w.cell? ⟨b, off + 2, none⟩ = some (.string (aS d)) ∧ ∃ (u0 u1 : Int) (u2 : ByteArray) (U : Option Addr) (u4 u5 : Nat),
  w.cell? ⟨b, off + 4, none⟩ = some (.int .i64 u0) ∧ w.cell? ⟨b, off + 5, none⟩ = some (.int .i64 u1) ∧ w.cell? ⟨b, off + 6, none⟩ = some (.string u2) ∧ w.cell? ⟨b, off + 7, none⟩ = some (.slice U u4 u5) ∧ TIn w B (lsD rr ds) (.agg #[.int .i64 u0, .int .i64 u1, .string u2, .slice U u4 u5]) := by
 unfold lsD twoT at h
 obtain ⟨A, c, e, hc, _, hx⟩ := h
 obtain ⟨rfl, rfl, rfl, rfl, rfl, rfl⟩ := agg4 e
 obtain ⟨b, off, rfl, hb, ha⟩ := hx (by decide)
 obtain ⟨v0, v1, v2, v3, h0, h1, h2, h3, ht⟩ := ha 0 (by decide)
 obtain ⟨u0, u1, u2, u3, g0, g1, g2, g3, gt⟩ := ha 1 (by decide)
 replace ht : TIn w B (atT (aS d)) (.agg #[v0, v1, v2, v3]) := ht
 replace gt : TIn w B (lsD rr ds) (.agg #[u0, u1, u2, u3]) := gt
 obtain ⟨A0, c0, e0, _⟩ := ht
 injection e0 with e0
 simp only [Array.mk.injEq, List.cons.injEq, and_true] at e0
 obtain ⟨rfl, rfl, rfl, rfl⟩ := e0
 cases hL : lsD rr ds with
 | nil => rw [hL] at gt; exact gt.elim
 | mk k n s m a =>
  rw [hL] at gt
  obtain ⟨A1, c1, e1, hr⟩ := gt
  injection e1 with e1
  simp only [Array.mk.injEq, List.cons.injEq, and_true] at e1
  obtain ⟨rfl, rfl, rfl, rfl⟩ := e1
  exact ⟨rfl, rfl, rfl, rfl, hc, b, off, rfl, hb, h2, _, _, _, _, _, _, g0, g1, g2, g3, A1, c1, rfl, hr⟩
set_option maxRecDepth 100000 in
set_option maxHeartbeats 8000000 in
theorem readlists_any {l : List Int} {v : Value} (rest : Bool) (w : World) (hl : UIn w w.heap.size l v) (hx : ∀ x ∈ l, 0 ≤ x ∧ x < 256) (hmx : (l.length : Int) ≤ 9223372036854775807) (h : Bs w) :
 Calls Tryz.prog 6 #[v, .bool rest] w fun e w' => e = .returned (.bool true) ∧ Below w.heap.size w w' := by
 obtain ⟨A, c, rfl, hc⟩ := hl
 have HB := Lib.hid h
 have HX := Lib.hid hx
 have HC := Lib.hid hc
 clear h hx hc
 by_cases hbig : (60 : Int) < (l.length : Int)
 ·go_enter Tryz.func6, Tryz.ntmps6
  go_wp2_with fail
  go_ret
  exact ⟨rfl, Below.refl _ _⟩
 have hl60 : l.length ≤ 60 := by omega
 go_enter Tryz.func6, Tryz.ntmps6
 go_wp2_with fail
 go_loopw [5, 6] (fun sv iv wr => ∃ (i : Nat) (s : ByteArray), sv = .string s ∧ iv = .int .i64 (i : Int) ∧ i ≤ l.length ∧ s.size ≤ 1 + 3 * i ∧ Hid (s.data.toList = 91 :: bodyL (dsL (l.take i))) ∧ Below w.heap.size w wr) (fun _ iv _ => l.length - (intOf iv).toNat)
 case atStart => exact ⟨0, _, rfl, rfl, Nat.zero_le _, by decide, Lib.hid rfl, Below.refl _ _⟩
 case round =>
  obtain ⟨i, s, rfl, rfl, hi, hss, hs, hb⟩ := hrel
  have WB := Lib.hid hb
  by_cases him : i < l.length
  ·have him' : (i : Int) < (l.length : Int) := by omega
   obtain ⟨g, o, rfl, hg, hcs⟩ := HC.out (by omega)
   obtain ⟨x, hxx⟩ : ∃ x, l[i]? = some x := ⟨_, List.getElem?_eq_getElem him⟩
   have z := (hb.cell (p := ⟨g, o + i, none⟩) hg).trans (hcs i x hxx)
   have hxb := HX.out x (List.mem_of_getElem? hxx)
   obtain ⟨d, hd⟩ : ∃ d : Nat, (x % 10).toNat = d := ⟨_, rfl⟩
   have HXX := Lib.hid hxx
   have HD := Lib.hid hd
   have hd10 : d < 10 := by omega
   have hm : x % 10 = (d : Int) := by omega
   have hgl : g < wr.heap.size := Nat.lt_of_lt_of_le hg hb.size
   clear hcs hxx hb hd
   have hdz := dg_size d hd10
   unfold dgS at hdz
   by_cases h0 : (0 : Int) < (i : Int)
   ·have HT := Lib.hid (text_b hs.out HXX.out HD.out hd10 (by omega))
    unfold dgS at HT
    go_wp2_with fail
    go_region
    all_goals
     go_wp2_with fail
     go_roundw
     case rel => exact ⟨i + 1, _, rfl, by go_num, him, by simp only [ByteArray.size_append, hdz, show (⟨#[44]⟩ : ByteArray).size = 1 from rfl, show (⟨#[97]⟩ : ByteArray).size = 1 from rfl]; omega, HT, WB.out.drew⟩
     case measure => simp [intOf]; omega
   ·have HT := Lib.hid (text_a hs.out HXX.out HD.out hd10 (by omega))
    unfold dgS at HT
    go_wp2_with fail
    go_region
    all_goals
     go_wp2_with fail
     go_roundw
     case rel => exact ⟨i + 1, _, rfl, by go_num, him, by simp only [ByteArray.size_append, hdz, show (⟨#[97]⟩ : ByteArray).size = 1 from rfl]; omega, HT, WB.out.drew⟩
     case measure => simp [intOf]; omega
  ·obtain rfl : i = l.length := by omega
   rw [List.take_length] at hs
   have hsz : s.size ≤ 200 := by omega
   have HSN := Lib.hid (sent_list (rest := rest) (ds_lt l) (by rw [dsL, List.length_map]; exact hl60))
   have C1 := Lib.hid (fun (u : ByteArray) (hu : u = ba (listD rest (dsL l))) => ((HB.out.below WB.out).one u).mono fun e w' h => h.ok (show sentN u = .ok (lsD (restD rest (dsL l)) (dsL l), []) by rw [hu]; exact HSN.out))
   have C2 := Lib.hid (fun (u : ByteArray) (hu : u = ba (listD rest (dsL l))) (W : World) => (onexn_any u W).mono fun e w' h => h.ok (show sentN u = .ok (lsD (restD rest (dsL l)) (dsL l), []) by rw [hu]; exact HSN.out))
   clear hb
   by_cases hr : rest = true ∧ 0 < l.length
   ·obtain ⟨rfl, h0⟩ := hr
    have h0' : (0 : Int) < (l.length : Int) := by omega
    have HE := Lib.hid (end_b hs.out h0)
    have HRD := Lib.hid (show restD true (dsL l) = true from if_neg (fun e => by have := ds_nil.1 e; omega))
    go_wp2_with fail
    refine (C1.out _ HE.out).mono ?_
    rintro e w1 ⟨k1, n1, nm1, A1, m1, c1, NA1, nn1, nc1, p1, rfl, ht1, hg1, hd1, ho1, hl1, hb1⟩
    have T1 := Lib.hid ht1
    have B1 := Lib.hid (WB.out.trans (hb1.mono WB.out.size))
    have AX1 := Lib.hid ((Below.refl w1.heap.size w1).alloc (Nat.le_refl _) (Obj.cells #[.int .i64 k1, .int .i64 n1, .string nm1, .slice A1 m1 c1, .slice NA1 nn1 nc1] 34))
    have X1 := Lib.hid (heap_alloc_new w1 (Obj.cells #[.int .i64 k1, .int .i64 n1, .string nm1, .slice A1 m1 c1, .slice NA1 nn1 nc1] 34))
    have hw1 := B1.out.size
    clear ht1 hg1 ho1 hl1 hb1
    go_wp2_with fail
    refine (C2.out _ HE.out _).mono ?_
    rintro e w2 ⟨k2, n2, nm2, A2, m2, c2, NA2, nn2, nc2, p2, rfl, ht2, hg2, hd2, ho2, hl2, hb2⟩
    have X12 := Lib.hid ((hb2.block _ (heap_lt X1.out)).trans X1.out)
    have AX2 := Lib.hid ((Below.refl w2.heap.size w2).alloc (Nat.le_refl _) (Obj.cells #[.int .i64 k2, .int .i64 n2, .string nm2, .slice A2 m2 c2, .slice NA2 nn2 nc2] 34))
    have K2 := Lib.hid (AX1.out.trans ((hb2.trans (AX2.out.mono hb2.size)).mono AX1.out.size))
    have X13 := Lib.hid ((AX2.out.block _ (heap_lt X12.out)).trans X12.out)
    have X23 := Lib.hid (heap_alloc_new w2 (Obj.cells #[.int .i64 k2, .int .i64 n2, .string nm2, .slice A2 m2 c2, .slice NA2 nn2 nc2] 34))
    have TA := Lib.hid (T1.out.at_ K2.out)
    have CA := Lib.hid (same_any _ _ _ _ TA.out (ht2.at_ AX2.out) (by omega))
    have B2 := Lib.hid (B1.out.trans (K2.out.mono hw1))
    obtain ⟨x0, x1, x2, x3, _⟩ := box5 X13.out
    obtain ⟨y0, y1, y2, y3, _⟩ := box5 X23.out
    have hl13 := heap_lt X13.out
    clear ht2 hg2 ho2 hl2 hb2
    go_wp2_with fail
    refine CA.out.mono ?_
    rintro e w3 ⟨rfl, hb3⟩
    have B3 := Lib.hid (B2.out.trans (hb3.mono B2.out.size))
    have X14 := Lib.hid ((hb3.block _ hl13).trans X13.out)
    have T3 := Lib.hid ((TA.out.below hb3).more hb3.size)
    have AX3 := Lib.hid ((Below.refl w3.heap.size w3).alloc (Nat.le_refl _) (Obj.cells #[.int .i64 k1, .int .i64 n1, .string nm1, .slice A1 m1 c1] 31))
    have X3 := Lib.hid (heap_alloc_new w3 (Obj.cells #[.int .i64 k1, .int .i64 n1, .string nm1, .slice A1 m1 c1] 31))
    have hw3 := B3.out.size
    clear x0 x1 x2 x3 y0 y1 y2 y3 hb3 CA
    obtain ⟨x0, x1, x2, x3, _⟩ := box5 X14.out
    go_wp2_with fail
    go_loopw [14] (fun iv wq => ∃ (i : Nat) (q0 q1 : Int) (q2 : ByteArray) (Q : Option Addr) (q4 q5 : Nat), iv = .int .i64 (i : Int) ∧ i ≤ l.length ∧ Below w.heap.size w wq ∧ wq.heap[w3.heap.size]? = some (.cells #[.int .i64 q0, .int .i64 q1, .string q2, .slice Q q4 q5] 31 (0, 0)) ∧ Hid (TIn wq w3.heap.size (lsD (restD true (dsL l)) ((dsL l).drop i)) (.agg #[.int .i64 q0, .int .i64 q1, .string q2, .slice Q q4 q5]))) (fun iv _ => l.length - (intOf iv).toNat)
    case atStart => exact ⟨0, _, _, _, _, _, _, rfl, Nat.zero_le _, B3.out.trans (AX3.out.mono hw3), X3.out, Lib.hid (by rw [List.drop_zero]; exact T3.out.below AX3.out)⟩
    case round =>
     clear HE C1 C2 T1 TA T3 X1 X12 X13 X14 X23 X3 AX1 AX2 AX3 K2 x0 x1 x2 x3
     obtain ⟨i, q0, q1, q2, Q, q4, q5, rfl, hi, hb, hbx, htq⟩ := hrel
     have WQ := Lib.hid hb
     have XQ := Lib.hid hbx
     obtain ⟨y0, y1, y2, y3⟩ := box4t hbx
     have yf : ∀ j, wr.frozen? ⟨w3.heap.size, j, none⟩ = false := fun j => by simp [World.frozen?, hbx]
     have hql := heap_lt hbx
     by_cases him : i < l.length
     ·have him' : (i : Int) < (l.length : Int) := by omega
      obtain ⟨g, o, rfl, hg, hcs⟩ := HC.out (by omega)
      obtain ⟨x, hxx⟩ : ∃ x, l[i]? = some x := ⟨_, List.getElem?_eq_getElem him⟩
      have z := (hb.cell (p := ⟨g, o + i, none⟩) hg).trans (hcs i x hxx)
      have hxb := HX.out x (List.mem_of_getElem? hxx)
      obtain ⟨d, hd⟩ : ∃ d : Nat, (x % 10).toNat = d := ⟨_, rfl⟩
      have hd10 : d < 10 := by omega
      have hm : x % 10 = (d : Int) := by omega
      have hgl : g < wr.heap.size := Nat.lt_of_lt_of_le hg hb.size
      have hdr := ds_drop hxx hd
      have htq := htq.out
      rw [hdr] at htq
      obtain ⟨rfl, rfl, rfl, rfl, h25, bb, off, rfl, hbb, za, u0, u1, u2, U, u4, u5, z0, z1, z2, z3, htn⟩ := node_at htq
      rw [name_eq d hd10] at za
      unfold dgS at za
      have TN := Lib.hid htn
      have hbl : bb < wr.heap.size := by omega
      have hne : bb ≠ w3.heap.size := by omega
      have hne2 : w3.heap.size ≠ bb := by omega
      clear hcs hxx hb hd hdr htq htn hbx
      go_wp2_with fail
      go_region
      have P := box_put4 (show wr.drew.heap[w3.heap.size]? = _ from XQ.out) (.int .i64 u0) (.int .i64 u1) (.string u2) (.slice U u4 u5) rfl
      have RN := Lib.hid (And.intro (P.2.2.2 _ _ hw3 WQ.out.drew) (And.intro P.1 (TN.out.below (P.2.2.2 w3.heap.size wr (Nat.le_refl _) (Below.refl _ _).drew))))
      clear P
      go_wp2_with fail
      go_roundw
      case rel => exact ⟨i + 1, _, _, _, _, _, _, by go_num, him, RN.out.1, RN.out.2.1, Lib.hid RN.out.2.2⟩
      case measure => simp [intOf]; omega
     ·obtain rfl : i = l.length := by omega
      have htq := htq.out
      rw [List.drop_eq_nil_of_le (by rw [dsL, List.length_map]; exact Nat.le_refl _), HRD.out] at htq
      obtain ⟨rfl, hq2⟩ := leaf_at (s := zS) htq
      obtain rfl : q2 = ⟨#[122]⟩ := hq2
      clear htq
      go_wp2_with fail
      go_ret
      exact ⟨rfl, WQ.out⟩
   ·cases rest with
    | false =>
     have HE := Lib.hid (end_a hs.out (rest := false) (.inl rfl))
     have HRD := Lib.hid (show restD false (dsL l) = false by unfold restD; split <;> rfl)
     go_wp2_with fail
     refine (C1.out _ HE.out).mono ?_
     rintro e w1 ⟨k1, n1, nm1, A1, m1, c1, NA1, nn1, nc1, p1, rfl, ht1, hg1, hd1, ho1, hl1, hb1⟩
     have T1 := Lib.hid ht1
     have B1 := Lib.hid (WB.out.trans (hb1.mono WB.out.size))
     have AX1 := Lib.hid ((Below.refl w1.heap.size w1).alloc (Nat.le_refl _) (Obj.cells #[.int .i64 k1, .int .i64 n1, .string nm1, .slice A1 m1 c1, .slice NA1 nn1 nc1] 34))
     have X1 := Lib.hid (heap_alloc_new w1 (Obj.cells #[.int .i64 k1, .int .i64 n1, .string nm1, .slice A1 m1 c1, .slice NA1 nn1 nc1] 34))
     have hw1 := B1.out.size
     clear ht1 hg1 ho1 hl1 hb1
     go_wp2_with fail
     refine (C2.out _ HE.out _).mono ?_
     rintro e w2 ⟨k2, n2, nm2, A2, m2, c2, NA2, nn2, nc2, p2, rfl, ht2, hg2, hd2, ho2, hl2, hb2⟩
     have X12 := Lib.hid ((hb2.block _ (heap_lt X1.out)).trans X1.out)
     have AX2 := Lib.hid ((Below.refl w2.heap.size w2).alloc (Nat.le_refl _) (Obj.cells #[.int .i64 k2, .int .i64 n2, .string nm2, .slice A2 m2 c2, .slice NA2 nn2 nc2] 34))
     have K2 := Lib.hid (AX1.out.trans ((hb2.trans (AX2.out.mono hb2.size)).mono AX1.out.size))
     have X13 := Lib.hid ((AX2.out.block _ (heap_lt X12.out)).trans X12.out)
     have X23 := Lib.hid (heap_alloc_new w2 (Obj.cells #[.int .i64 k2, .int .i64 n2, .string nm2, .slice A2 m2 c2, .slice NA2 nn2 nc2] 34))
     have TA := Lib.hid (T1.out.at_ K2.out)
     have CA := Lib.hid (same_any _ _ _ _ TA.out (ht2.at_ AX2.out) (by omega))
     have B2 := Lib.hid (B1.out.trans (K2.out.mono hw1))
     obtain ⟨x0, x1, x2, x3, _⟩ := box5 X13.out
     obtain ⟨y0, y1, y2, y3, _⟩ := box5 X23.out
     have hl13 := heap_lt X13.out
     clear ht2 hg2 ho2 hl2 hb2
     go_wp2_with fail
     refine CA.out.mono ?_
     rintro e w3 ⟨rfl, hb3⟩
     have B3 := Lib.hid (B2.out.trans (hb3.mono B2.out.size))
     have X14 := Lib.hid ((hb3.block _ hl13).trans X13.out)
     have T3 := Lib.hid ((TA.out.below hb3).more hb3.size)
     have AX3 := Lib.hid ((Below.refl w3.heap.size w3).alloc (Nat.le_refl _) (Obj.cells #[.int .i64 k1, .int .i64 n1, .string nm1, .slice A1 m1 c1] 31))
     have X3 := Lib.hid (heap_alloc_new w3 (Obj.cells #[.int .i64 k1, .int .i64 n1, .string nm1, .slice A1 m1 c1] 31))
     have hw3 := B3.out.size
     clear x0 x1 x2 x3 y0 y1 y2 y3 hb3 CA
     obtain ⟨x0, x1, x2, x3, _⟩ := box5 X14.out
     go_wp2_with fail
     go_loopw [14] (fun iv wq => ∃ (i : Nat) (q0 q1 : Int) (q2 : ByteArray) (Q : Option Addr) (q4 q5 : Nat), iv = .int .i64 (i : Int) ∧ i ≤ l.length ∧ Below w.heap.size w wq ∧ wq.heap[w3.heap.size]? = some (.cells #[.int .i64 q0, .int .i64 q1, .string q2, .slice Q q4 q5] 31 (0, 0)) ∧ Hid (TIn wq w3.heap.size (lsD (restD false (dsL l)) ((dsL l).drop i)) (.agg #[.int .i64 q0, .int .i64 q1, .string q2, .slice Q q4 q5]))) (fun iv _ => l.length - (intOf iv).toNat)
     case atStart => exact ⟨0, _, _, _, _, _, _, rfl, Nat.zero_le _, B3.out.trans (AX3.out.mono hw3), X3.out, Lib.hid (by rw [List.drop_zero]; exact T3.out.below AX3.out)⟩
     case round =>
      clear HE C1 C2 T1 TA T3 X1 X12 X13 X14 X23 X3 AX1 AX2 AX3 K2 x0 x1 x2 x3
      obtain ⟨i, q0, q1, q2, Q, q4, q5, rfl, hi, hb, hbx, htq⟩ := hrel
      have WQ := Lib.hid hb
      have XQ := Lib.hid hbx
      obtain ⟨y0, y1, y2, y3⟩ := box4t hbx
      have yf : ∀ j, wr.frozen? ⟨w3.heap.size, j, none⟩ = false := fun j => by simp [World.frozen?, hbx]
      have hql := heap_lt hbx
      by_cases him : i < l.length
      ·have him' : (i : Int) < (l.length : Int) := by omega
       obtain ⟨g, o, rfl, hg, hcs⟩ := HC.out (by omega)
       obtain ⟨x, hxx⟩ : ∃ x, l[i]? = some x := ⟨_, List.getElem?_eq_getElem him⟩
       have z := (hb.cell (p := ⟨g, o + i, none⟩) hg).trans (hcs i x hxx)
       have hxb := HX.out x (List.mem_of_getElem? hxx)
       obtain ⟨d, hd⟩ : ∃ d : Nat, (x % 10).toNat = d := ⟨_, rfl⟩
       have hd10 : d < 10 := by omega
       have hm : x % 10 = (d : Int) := by omega
       have hgl : g < wr.heap.size := Nat.lt_of_lt_of_le hg hb.size
       have hdr := ds_drop hxx hd
       have htq := htq.out
       rw [hdr] at htq
       obtain ⟨rfl, rfl, rfl, rfl, h25, bb, off, rfl, hbb, za, u0, u1, u2, U, u4, u5, z0, z1, z2, z3, htn⟩ := node_at htq
       rw [name_eq d hd10] at za
       unfold dgS at za
       have TN := Lib.hid htn
       have hbl : bb < wr.heap.size := by omega
       have hne : bb ≠ w3.heap.size := by omega
       have hne2 : w3.heap.size ≠ bb := by omega
       clear hcs hxx hb hd hdr htq htn hbx
       go_wp2_with fail
       go_region
       have P := box_put4 (show wr.drew.heap[w3.heap.size]? = _ from XQ.out) (.int .i64 u0) (.int .i64 u1) (.string u2) (.slice U u4 u5) rfl
       have RN := Lib.hid (And.intro (P.2.2.2 _ _ hw3 WQ.out.drew) (And.intro P.1 (TN.out.below (P.2.2.2 w3.heap.size wr (Nat.le_refl _) (Below.refl _ _).drew))))
       clear P
       go_wp2_with fail
       go_roundw
       case rel => exact ⟨i + 1, _, _, _, _, _, _, by go_num, him, RN.out.1, RN.out.2.1, Lib.hid RN.out.2.2⟩
       case measure => simp [intOf]; omega
      ·obtain rfl : i = l.length := by omega
       have htq := htq.out
       rw [List.drop_eq_nil_of_le (by rw [dsL, List.length_map]; exact Nat.le_refl _), HRD.out] at htq
       obtain ⟨rfl, hq2⟩ := leaf_at (s := nilS) htq
       obtain rfl : q2 = ⟨#[91, 93]⟩ := hq2
       clear htq
       go_wp2_with fail
       go_ret
       exact ⟨rfl, WQ.out⟩
    | true =>
     have h00 : l.length = 0 := Nat.eq_zero_of_not_pos fun h => hr ⟨rfl, h⟩
     have h0' : ¬ (0 : Int) < (l.length : Int) := by omega
     have HE := Lib.hid (end_a hs.out (rest := true) (.inr h00))
     have HRD := Lib.hid (show restD true (dsL l) = false from if_pos (ds_nil.2 h00))
     go_wp2_with fail
     refine (C1.out _ HE.out).mono ?_
     rintro e w1 ⟨k1, n1, nm1, A1, m1, c1, NA1, nn1, nc1, p1, rfl, ht1, hg1, hd1, ho1, hl1, hb1⟩
     have T1 := Lib.hid ht1
     have B1 := Lib.hid (WB.out.trans (hb1.mono WB.out.size))
     have AX1 := Lib.hid ((Below.refl w1.heap.size w1).alloc (Nat.le_refl _) (Obj.cells #[.int .i64 k1, .int .i64 n1, .string nm1, .slice A1 m1 c1, .slice NA1 nn1 nc1] 34))
     have X1 := Lib.hid (heap_alloc_new w1 (Obj.cells #[.int .i64 k1, .int .i64 n1, .string nm1, .slice A1 m1 c1, .slice NA1 nn1 nc1] 34))
     have hw1 := B1.out.size
     clear ht1 hg1 ho1 hl1 hb1
     go_wp2_with fail
     refine (C2.out _ HE.out _).mono ?_
     rintro e w2 ⟨k2, n2, nm2, A2, m2, c2, NA2, nn2, nc2, p2, rfl, ht2, hg2, hd2, ho2, hl2, hb2⟩
     have X12 := Lib.hid ((hb2.block _ (heap_lt X1.out)).trans X1.out)
     have AX2 := Lib.hid ((Below.refl w2.heap.size w2).alloc (Nat.le_refl _) (Obj.cells #[.int .i64 k2, .int .i64 n2, .string nm2, .slice A2 m2 c2, .slice NA2 nn2 nc2] 34))
     have K2 := Lib.hid (AX1.out.trans ((hb2.trans (AX2.out.mono hb2.size)).mono AX1.out.size))
     have X13 := Lib.hid ((AX2.out.block _ (heap_lt X12.out)).trans X12.out)
     have X23 := Lib.hid (heap_alloc_new w2 (Obj.cells #[.int .i64 k2, .int .i64 n2, .string nm2, .slice A2 m2 c2, .slice NA2 nn2 nc2] 34))
     have TA := Lib.hid (T1.out.at_ K2.out)
     have CA := Lib.hid (same_any _ _ _ _ TA.out (ht2.at_ AX2.out) (by omega))
     have B2 := Lib.hid (B1.out.trans (K2.out.mono hw1))
     obtain ⟨x0, x1, x2, x3, _⟩ := box5 X13.out
     obtain ⟨y0, y1, y2, y3, _⟩ := box5 X23.out
     have hl13 := heap_lt X13.out
     clear ht2 hg2 ho2 hl2 hb2
     go_wp2_with fail
     refine CA.out.mono ?_
     rintro e w3 ⟨rfl, hb3⟩
     have B3 := Lib.hid (B2.out.trans (hb3.mono B2.out.size))
     have X14 := Lib.hid ((hb3.block _ hl13).trans X13.out)
     have T3 := Lib.hid ((TA.out.below hb3).more hb3.size)
     have AX3 := Lib.hid ((Below.refl w3.heap.size w3).alloc (Nat.le_refl _) (Obj.cells #[.int .i64 k1, .int .i64 n1, .string nm1, .slice A1 m1 c1] 31))
     have X3 := Lib.hid (heap_alloc_new w3 (Obj.cells #[.int .i64 k1, .int .i64 n1, .string nm1, .slice A1 m1 c1] 31))
     have hw3 := B3.out.size
     clear x0 x1 x2 x3 y0 y1 y2 y3 hb3 CA
     obtain ⟨x0, x1, x2, x3, _⟩ := box5 X14.out
     go_wp2_with fail
     go_loopw [14] (fun iv wq => ∃ (i : Nat) (q0 q1 : Int) (q2 : ByteArray) (Q : Option Addr) (q4 q5 : Nat), iv = .int .i64 (i : Int) ∧ i ≤ l.length ∧ Below w.heap.size w wq ∧ wq.heap[w3.heap.size]? = some (.cells #[.int .i64 q0, .int .i64 q1, .string q2, .slice Q q4 q5] 31 (0, 0)) ∧ Hid (TIn wq w3.heap.size (lsD (restD true (dsL l)) ((dsL l).drop i)) (.agg #[.int .i64 q0, .int .i64 q1, .string q2, .slice Q q4 q5]))) (fun iv _ => l.length - (intOf iv).toNat)
     case atStart => exact ⟨0, _, _, _, _, _, _, rfl, Nat.zero_le _, B3.out.trans (AX3.out.mono hw3), X3.out, Lib.hid (by rw [List.drop_zero]; exact T3.out.below AX3.out)⟩
     case round =>
      clear HE C1 C2 T1 TA T3 X1 X12 X13 X14 X23 X3 AX1 AX2 AX3 K2 x0 x1 x2 x3
      obtain ⟨i, q0, q1, q2, Q, q4, q5, rfl, hi, hb, hbx, htq⟩ := hrel
      have WQ := Lib.hid hb
      have XQ := Lib.hid hbx
      obtain ⟨y0, y1, y2, y3⟩ := box4t hbx
      have yf : ∀ j, wr.frozen? ⟨w3.heap.size, j, none⟩ = false := fun j => by simp [World.frozen?, hbx]
      have hql := heap_lt hbx
      by_cases him : i < l.length
      ·omega
      ·obtain rfl : i = l.length := by omega
       have htq := htq.out
       rw [List.drop_eq_nil_of_le (by rw [dsL, List.length_map]; exact Nat.le_refl _), HRD.out] at htq
       obtain ⟨rfl, hq2⟩ := leaf_at (s := nilS) htq
       obtain rfl : q2 = ⟨#[91, 93]⟩ := hq2
       clear htq
       go_wp2_with fail
       go_ret
       exact ⟨rfl, WQ.out⟩
end Go.Proofs.YtlogcealmiokkaaGreatDoor
