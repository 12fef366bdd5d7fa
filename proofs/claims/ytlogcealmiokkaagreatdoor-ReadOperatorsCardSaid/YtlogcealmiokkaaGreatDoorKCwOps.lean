/- The walk of ReadOperators. -/
import Derived.Test.YtlogcealmiokkaaGreatDoorKGu
import Derived.Test.YtlogcealmiokkaaGreatDoorKGv
import Derived.Test.YtlogcealmiokkaaGreatDoorKCwNums
namespace Go.Proofs.YtlogcealmiokkaaGreatDoor
open Go.RowKit
def opCells : Array Value := #[.string ⟨#[58, 45]⟩, .string ⟨#[59]⟩, .string ⟨#[45, 62]⟩, .string ⟨#[44]⟩, .string ⟨#[35, 60, 61, 62]⟩, .string ⟨#[61]⟩, .string ⟨#[105, 115]⟩, .string ⟨#[105, 110]⟩, .string ⟨#[92, 47]⟩, .string ⟨#[46, 46]⟩, .string ⟨#[43]⟩, .string ⟨#[45]⟩, .string ⟨#[42]⟩, .string ⟨#[109, 111, 100]⟩, .string ⟨#[94]⟩]
theorem opCells_at : ∀ i, i < 15 → ∃ f, f ∈ opL ∧ opCells[i]? = some (.string (ba f)) ∧ (ba f).size ≤ 10 := by
 intro i hi
 have h : i = 0 ∨ i = 1 ∨ i = 2 ∨ i = 3 ∨ i = 4 ∨ i = 5 ∨ i = 6 ∨ i = 7 ∨ i = 8 ∨ i = 9 ∨ i = 10 ∨ i = 11 ∨ i = 12 ∨ i = 13 ∨ i = 14 := by omega
 rcases h with rfl | rfl | rfl | rfl | rfl | rfl | rfl | rfl | rfl | rfl | rfl | rfl | rfl | rfl | rfl
 ·exact ⟨[58, 45], by decide, rfl, by decide⟩
 ·exact ⟨[59], by decide, rfl, by decide⟩
 ·exact ⟨[45, 62], by decide, rfl, by decide⟩
 ·exact ⟨[44], by decide, rfl, by decide⟩
 ·exact ⟨[35, 60, 61, 62], by decide, rfl, by decide⟩
 ·exact ⟨[61], by decide, rfl, by decide⟩
 ·exact ⟨[105, 115], by decide, rfl, by decide⟩
 ·exact ⟨[105, 110], by decide, rfl, by decide⟩
 ·exact ⟨[92, 47], by decide, rfl, by decide⟩
 ·exact ⟨[46, 46], by decide, rfl, by decide⟩
 ·exact ⟨[43], by decide, rfl, by decide⟩
 ·exact ⟨[45], by decide, rfl, by decide⟩
 ·exact ⟨[42], by decide, rfl, by decide⟩
 ·exact ⟨[109, 111, 100], by decide, rfl, by decide⟩
 ·exact ⟨[94], by decide, rfl, by decide⟩
def OpsOk (f g : List UInt8) (p l r q u o : Int) : Prop :=
 (∃ e, sentN (opText f g) = .error e ∧ e.2 ≠ 0 ∧ (o < 0 ∨ l < 0 ∨ (¬ q ≤ r ∧ ¬ p ≤ u))) ∨
 (∃ (k n : Int) (s : ByteArray) (a : Nat → T) (ns : List ByteArray), sentN (opText f g) = .ok (.mk k n s 2 a, ns) ∧ ¬ o < 0 ∧ ¬ l < 0 ∧
   ((q ≤ r ∧ s = ba f ∧ ∃ (k' n' : Int) (m' : Nat) (a' : Nat → T), a 1 = .mk k' n' (ba g) m' a') ∨ (¬ q ≤ r ∧ p ≤ u ∧ s = ba g ∧ ∃ (k' n' : Int) (m' : Nat) (a' : Nat → T), a 0 = .mk k' n' (ba f) m' a')))
theorem op_ok {f g : List UInt8} (hf : f ∈ opL) (hg : g ∈ opL) : ∃ p l r q u o, opIn (ba f) = some (p, l, r) ∧ opIn (ba g) = some (q, u, o) ∧ OpsOk f g p l r q u o := by
 have h := op_all f hf g hg
 unfold opSaid at h
 split at h
 ·rename_i p l r q u o h1 h2
  refine ⟨p, l, r, q, u, o, h1, h2, ?_⟩
  dsimp only at h
  split at h
  ·rename_i pp e hs
   refine .inl ⟨_, hs, ?_⟩
   simp only [Bool.and_eq_true, bne_iff_ne, ne_eq, Bool.or_eq_true, decide_eq_true_eq, Bool.not_eq_true', decide_eq_false_iff_not, Bool.and_eq_false_iff] at h
   refine ⟨h.1, ?_⟩
   rcases h.2 with (h3 | h3) | ⟨h3, h4⟩
   ·exact .inl h3
   ·exact .inr (.inl h3)
   ·refine .inr (.inr ⟨h3, ?_⟩)
    rcases h4 with h4 | h4
    ·exact h4
    ·simp at h4; exact absurd h4 h3
  ·rename_i k n s m a ns hs
   have hfs : ∀ {x : ByteArray} {y : List UInt8}, (x.data.toList == y) = true → x = ba y := fun e => ba_ext (by simpa using e)
   simp only [Bool.and_eq_true, Bool.not_eq_true', Bool.or_eq_false_iff, decide_eq_false_iff_not] at h
   obtain ⟨⟨⟨⟨ho, hl⟩, hio⟩, hm⟩, hx⟩ := h
   obtain rfl : m = 2 := by simpa using hm
   refine .inr ⟨k, n, s, a, ns, hs, ho, hl, ?_⟩
   by_cases hqr : q ≤ r
   ·rw [if_pos (by simpa using hqr)] at hx
    simp only [Bool.and_eq_true] at hx
    obtain ⟨x1, x2⟩ := hx
    refine .inl ⟨hqr, hfs x1, ?_⟩
    split at x2
    ·rename_i k' n' s' m' a' he
     exact ⟨k', n', m', a', by rw [he, hfs x2]⟩
    ·cases x2
   ·rw [if_neg (by simpa using hqr)] at hx
    simp only [Bool.and_eq_true] at hx
    obtain ⟨x1, x2⟩ := hx
    refine .inr ⟨hqr, ?_, hfs x1, ?_⟩
    ·simpa [hqr] using hio
    ·split at x2
     ·rename_i k' n' s' m' a' he
      exact ⟨k', n', m', a', by rw [he, hfs x2]⟩
     ·cases x2
  ·cases h
 ·cases h
theorem text_op (f g : List UInt8) : (⟨#[97, 32]⟩ : ByteArray) ++ ba f ++ ⟨#[32, 98, 32]⟩ ++ ba g ++ ⟨#[32, 99]⟩ = opText f g := by
 refine ba_ext ?_
 simp [ba]
theorem infix_is {nm : ByteArray} {p l r : Int} (h : opIn nm = some (p, l, r)) (w : World) : Calls Tryz.prog 15 #[.string nm] w fun e w' => e = .returned (.tuple #[.int .i64 p, .int .i64 l, .int .i64 r, .bool true]) ∧ Below w.heap.size w w' := by
 refine (infix_any nm w).mono ?_
 rintro e w' ⟨⟨p', l', r', b, rfl, hh⟩, hb⟩
 have hh := hh.out
 rw [h] at hh
 cases b with
 | false => cases hh
 | true =>
  rw [if_pos rfl] at hh
  injection hh with hh
  injection hh with h1 h2
  injection h2 with h2 h3
  subst h1 h2 h3
  exact ⟨rfl, hb⟩
def zeroT : T := .mk 0 0 ⟨#[]⟩ 0 fun _ => .nil
theorem zero_at (w : World) (B : Nat) : TIn w B zeroT (.agg #[.int .i64 0, .int .i64 0, .string ⟨#[]⟩, .slice none 0 0]) := ⟨none, 0, rfl, Nat.le_refl _, fun _ => rfl, fun h => absurd h (by decide)⟩
set_option maxRecDepth 100000 in
set_option maxHeartbeats 8000000 in
theorem readops_any (x y : Int) (hx : 0 ≤ x ∧ x ≤ 255) (hy : 0 ≤ y ∧ y ≤ 255) (w : World) (h : Bs w) :
 Calls Tryz.prog 5 #[.int .u8 x, .int .u8 y] w fun e w' => e = .returned (.bool true) ∧ Below w.heap.size w w' := by
 have HB := Lib.hid h
 obtain ⟨i, hi⟩ : ∃ i : Nat, (x % 15).toNat = i := ⟨_, rfl⟩
 obtain ⟨j, hj⟩ : ∃ j : Nat, (y % 15).toNat = j := ⟨_, rfl⟩
 have hi15 : i < 15 := by omega
 have hj15 : j < 15 := by omega
 have hxi : x % 15 = (i : Int) := by omega
 have hyj : y % 15 = (j : Int) := by omega
 obtain ⟨f, hf, hfc, hfs⟩ := opCells_at i hi15
 obtain ⟨g, hg, hgc, hgs⟩ := opCells_at j hj15
 obtain ⟨p, l, r, q, u, o, hp, hq, hok⟩ := op_ok hf hg
 have HP := Lib.hid hp
 have HQ := Lib.hid hq
 unfold OpsOk at hok
 have TX := Lib.hid (text_op f g)
 have AX := Lib.hid ((Below.refl w.heap.size w).alloc (Nat.le_refl _) (Obj.cells opCells 9))
 have XX := heap_alloc_new w (Obj.cells opCells 9)
 have zf : (w.alloc (Obj.cells opCells 9)).cell? ⟨w.heap.size, i, none⟩ = some (.string (ba f)) := (cell_of_row _ _ _ _ _ _ XX).trans hfc
 have zg : (w.alloc (Obj.cells opCells 9)).cell? ⟨w.heap.size, j, none⟩ = some (.string (ba g)) := (cell_of_row _ _ _ _ _ _ XX).trans hgc
 unfold opCells at zf zg AX
 generalize ba f = F at *
 generalize ba g = G at *
 clear h hf hg hfc hgc hp hq XX hi hj
 have hFF : (F.toList == F.toList) = true := beq_self_eq_true _
 have hGG : (G.toList == G.toList) = true := beq_self_eq_true _
 rcases hok with ⟨⟨pp, er⟩, hs, hne, hor⟩ | ⟨k, n, s, a, ns, hs, ho, hl, hor⟩
 ·have HS := Lib.hid hs
  have C1 := Lib.hid (((HB.out.below AX.out).one ((⟨#[97, 32]⟩ : ByteArray) ++ F ++ ⟨#[32, 98, 32]⟩ ++ G ++ ⟨#[32, 99]⟩)).mono fun e w' h => h.er (p := pp) (er := er) (by rw [TX.out]; exact HS.out))
  have C2 := Lib.hid (fun W => (onexn_any ((⟨#[97, 32]⟩ : ByteArray) ++ F ++ ⟨#[32, 98, 32]⟩ ++ G ++ ⟨#[32, 99]⟩) W).mono fun e w' h => h.er (p := pp) (er := er) (by rw [TX.out]; exact HS.out))
  have hne' : (er != 0) = true := by simpa using hne
  have hee : (er != er) = false := by simp
  have HOR := Lib.hid hor
  clear hs hne hor
  go_enter Tryz.func5, Tryz.ntmps5
  go_wp2_with fail
  refine C1.out.mono ?_
  rintro e w1 ⟨_, p1, rfl, hb1⟩
  have B1 := Lib.hid (AX.out.trans (hb1.mono AX.out.size))
  have A1 := Lib.hid ((Below.refl w1.heap.size w1).alloc (Nat.le_refl _) (Obj.cells #[.int .i64 0, .int .i64 0, .string ⟨#[]⟩, .slice none 0 0, .slice none 0 0] 34))
  have X1 := Lib.hid (heap_alloc_new w1 (Obj.cells #[.int .i64 0, .int .i64 0, .string ⟨#[]⟩, .slice none 0 0, .slice none 0 0] 34))
  clear hb1 C1 zf zg AX
  go_wp2_with fail
  refine (C2.out _).mono ?_
  rintro e w2 ⟨_, p2, rfl, hb2⟩
  have A2 := Lib.hid ((Below.refl w2.heap.size w2).alloc (Nat.le_refl _) (Obj.cells #[.int .i64 0, .int .i64 0, .string ⟨#[]⟩, .slice none 0 0, .slice none 0 0] 34))
  have X2 := Lib.hid (heap_alloc_new w2 (Obj.cells #[.int .i64 0, .int .i64 0, .string ⟨#[]⟩, .slice none 0 0, .slice none 0 0] 34))
  have X12 := Lib.hid ((A2.out.block _ (Nat.lt_of_lt_of_le (heap_lt X1.out) hb2.size)).trans ((hb2.block _ (heap_lt X1.out)).trans X1.out))
  have B2 := Lib.hid (((B1.out.trans (A1.out.mono B1.out.size)).trans (hb2.mono (Nat.le_trans B1.out.size A1.out.size))).trans (A2.out.mono (Nat.le_trans (Nat.le_trans B1.out.size A1.out.size) hb2.size)))
  clear hb2 C2
  go_wp2_with fail
  refine (infix_is HP.out _).mono ?_
  rintro e w3 ⟨rfl, hb3⟩
  have X13 := Lib.hid ((hb3.block _ (heap_lt X12.out)).trans X12.out)
  have X23 := Lib.hid ((hb3.block _ (heap_lt X2.out)).trans X2.out)
  have B3 := Lib.hid (B2.out.trans (hb3.mono B2.out.size))
  clear hb3
  go_wp2_with fail
  refine (infix_is HQ.out _).mono ?_
  rintro e w4 ⟨rfl, hb4⟩
  have X14 := Lib.hid ((hb4.block _ (heap_lt X13.out)).trans X13.out)
  have X24 := Lib.hid ((hb4.block _ (heap_lt X23.out)).trans X23.out)
  have B4 := Lib.hid (B3.out.trans (hb4.mono B3.out.size))
  clear hb4
  obtain ⟨x0, x1, x2, x3, _⟩ := box5 X14.out
  obtain ⟨y0, y1, y2, y3, _⟩ := box5 X24.out
  have CA := Lib.hid (same_any zeroT _ _ w4 (zero_at _ _) (zero_at _ _) (by simp [zeroT, T.nodes, sumTo]))
  go_wp2_with fail
  refine CA.out.mono ?_
  rintro e w5 ⟨rfl, hb5⟩
  have B5 := Lib.hid (B4.out.trans (hb5.mono B4.out.size))
  clear hb5 CA x0 x1 x2 x3 y0 y1 y2 y3
  have hor := HOR.out
  by_cases hqr : q ≤ r
  all_goals by_cases hpu : p ≤ u
  all_goals by_cases ho : o < 0
  all_goals by_cases hl : l < 0
  all_goals
   first
   | (exfalso; clear HB HP HQ TX HOR; omega)
   | (first | (have d1 : decide (q ≤ r) = true := decide_eq_true hqr) | (have d1 : decide (q ≤ r) = false := decide_eq_false (by omega))
      first | (have d2 : decide (p ≤ u) = true := decide_eq_true hpu) | (have d2 : decide (p ≤ u) = false := decide_eq_false (by omega))
      first | (have d3 : decide (o < 0) = true := decide_eq_true ho) | (have d3 : decide (o < 0) = false := decide_eq_false (by omega))
      first | (have d4 : decide (l < 0) = true := decide_eq_true hl) | (have d4 : decide (l < 0) = false := decide_eq_false (by omega))
      clear hor HOR
      go_wp2_with fail
      go_ret
      exact ⟨rfl, B5.out⟩)
 ·have HS := Lib.hid hs
  have C1 := Lib.hid (((HB.out.below AX.out).one ((⟨#[97, 32]⟩ : ByteArray) ++ F ++ ⟨#[32, 98, 32]⟩ ++ G ++ ⟨#[32, 99]⟩)).mono fun e w' h => h.ok (show sentN _ = .ok (.mk k n s 2 a, ns) by rw [TX.out]; exact HS.out))
  have C2 := Lib.hid (fun W => (onexn_any ((⟨#[97, 32]⟩ : ByteArray) ++ F ++ ⟨#[32, 98, 32]⟩ ++ G ++ ⟨#[32, 99]⟩) W).mono fun e w' h => h.ok (show sentN _ = .ok (.mk k n s 2 a, ns) by rw [TX.out]; exact HS.out))
  have HOR := Lib.hid hor
  clear hs hor
  go_enter Tryz.func5, Tryz.ntmps5
  go_wp2_with fail
  refine C1.out.mono ?_
  rintro e w1 ⟨k1, n1, nm1, A1, m1, c1, NA1, nn1, nc1, p1, rfl, ht1, hg1, hd1, ho1, hl1, hb1⟩
  obtain ⟨rfl, rfl, rfl, rfl, hc1, hA1, hx1⟩ := ht1.parts
  have T1 := Lib.hid ht1
  have XA1 := Lib.hid hx1
  have B1 := Lib.hid (AX.out.trans (hb1.mono AX.out.size))
  have A1' := Lib.hid ((Below.refl w1.heap.size w1).alloc (Nat.le_refl _) (Obj.cells #[.int .i64 k1, .int .i64 n1, .string nm1, .slice A1 2 c1, .slice NA1 nn1 nc1] 34))
  have X1 := Lib.hid (heap_alloc_new w1 (Obj.cells #[.int .i64 k1, .int .i64 n1, .string nm1, .slice A1 2 c1, .slice NA1 nn1 nc1] 34))
  clear hb1 C1 zf zg AX ht1 hx1 hg1 ho1 hl1
  go_wp2_with fail
  refine (C2.out _).mono ?_
  rintro e w2 ⟨k2, n2, nm2, A2, m2, c2, NA2, nn2, nc2, p2, rfl, ht2, hg2, hd2, ho2, hl2, hb2⟩
  have A2' := Lib.hid ((Below.refl w2.heap.size w2).alloc (Nat.le_refl _) (Obj.cells #[.int .i64 k2, .int .i64 n2, .string nm2, .slice A2 m2 c2, .slice NA2 nn2 nc2] 34))
  have X2 := Lib.hid (heap_alloc_new w2 (Obj.cells #[.int .i64 k2, .int .i64 n2, .string nm2, .slice A2 m2 c2, .slice NA2 nn2 nc2] 34))
  have K2 := Lib.hid (A1'.out.trans ((hb2.trans (A2'.out.mono hb2.size)).mono A1'.out.size))
  have X12 := Lib.hid ((A2'.out.block _ (Nat.lt_of_lt_of_le (heap_lt X1.out) hb2.size)).trans ((hb2.block _ (heap_lt X1.out)).trans X1.out))
  have T2 := Lib.hid (ht2.below A2'.out)
  have B2 := Lib.hid (B1.out.trans (K2.out.mono B1.out.size))
  clear hb2 C2 ht2 hg2 ho2 hl2
  go_wp2_with fail
  refine (infix_is HP.out _).mono ?_
  rintro e w3 ⟨rfl, hb3⟩
  have X13 := Lib.hid ((hb3.block _ (heap_lt X12.out)).trans X12.out)
  have X23 := Lib.hid ((hb3.block _ (heap_lt X2.out)).trans X2.out)
  have B3 := Lib.hid (B2.out.trans (hb3.mono B2.out.size))
  have T3 := Lib.hid (T2.out.below hb3)
  have K3 := Lib.hid (K2.out.trans (hb3.mono K2.out.size))
  clear hb3
  go_wp2_with fail
  refine (infix_is HQ.out _).mono ?_
  rintro e w4 ⟨rfl, hb4⟩
  have X14 := Lib.hid ((hb4.block _ (heap_lt X13.out)).trans X13.out)
  have X24 := Lib.hid ((hb4.block _ (heap_lt X23.out)).trans X23.out)
  have B4 := Lib.hid (B3.out.trans (hb4.mono B3.out.size))
  have K4 := Lib.hid (K3.out.trans (hb4.mono K3.out.size))
  obtain ⟨x0, x1, x2, x3, _⟩ := box5 X14.out
  obtain ⟨y0, y1, y2, y3, _⟩ := box5 X24.out
  have CA := Lib.hid (same_any _ _ _ w4 (T1.out.at_ K4.out) (T3.out.at_ hb4) (Nat.le_trans hd1 (by decide)))
  clear hb4
  go_wp2_with fail
  refine CA.out.mono ?_
  rintro e w5 ⟨rfl, hb5⟩
  have B5 := Lib.hid (B4.out.trans (hb5.mono B4.out.size))
  have X15 := Lib.hid ((hb5.block _ (heap_lt X14.out)).trans X14.out)
  have K5 := Lib.hid (K4.out.trans (hb5.mono K4.out.size))
  clear hb5 CA x0 x1 x2 x3 y0 y1 y2 y3
  obtain ⟨x0, x1, x2, x3, _⟩ := box5 X15.out
  have d3 : decide (o < 0) = false := decide_eq_false (by omega)
  have d4 : decide (l < 0) = false := decide_eq_false (by omega)
  rcases HOR.out with ⟨hqr, hs1, k', n', m', a', ha⟩ | ⟨hqr, hpu, hs1, k', n', m', a', ha⟩
  ·have d1 : decide (q ≤ r) = true := decide_eq_true hqr
   obtain ⟨b, u0, u1, u2, U, qq, dd, rfl, hbl, z0, z1, z2, z3, htu⟩ := XA1.out 1 (by decide)
   rw [ha] at htu
   obtain ⟨_, _, hu2, _⟩ := htu.parts
   have z6 : w5.cell? ⟨b, 6, none⟩ = some (.string G) := (K5.out.cell (p := ⟨b, 6, none⟩) hbl).trans (by rw [z2, hu2])
   obtain rfl : nm1 = F := hs1
   clear z0 z1 z2 z3 htu hu2
   by_cases hpu : p ≤ u
   ·have d2 : decide (p ≤ u) = true := decide_eq_true hpu
    go_wp2_with fail
    go_ret
    exact ⟨rfl, B5.out⟩
   ·have d2 : decide (p ≤ u) = false := decide_eq_false (by omega)
    go_wp2_with fail
    go_ret
    exact ⟨rfl, B5.out⟩
  ·have d1 : decide (q ≤ r) = false := decide_eq_false (by omega)
   have d2 : decide (p ≤ u) = true := decide_eq_true hpu
   obtain ⟨b, u0, u1, u2, U, qq, dd, rfl, hbl, z0, z1, z2, z3, htu⟩ := XA1.out 0 (by decide)
   rw [ha] at htu
   obtain ⟨_, _, hu2, _⟩ := htu.parts
   have z6 : w5.cell? ⟨b, 2, none⟩ = some (.string F) := (K5.out.cell (p := ⟨b, 2, none⟩) hbl).trans (by rw [z2, hu2])
   obtain rfl : nm1 = G := hs1
   clear z0 z1 z2 z3 htu hu2
   go_wp2_with fail
   go_ret
   exact ⟨rfl, B5.out⟩
end Go.Proofs.YtlogcealmiokkaaGreatDoor
