/- The walk of ReadNumbers. -/
import Derived.Test.YtlogcealmiokkaaGreatDoorKGu
import Derived.Test.YtlogcealmiokkaaGreatDoorKGv
namespace Go.Proofs.YtlogcealmiokkaaGreatDoor
open Go.RowKit
theorem TP.parts {w : World} {S : Nat → Prop} {k n : Int} {s : ByteArray} {m : Nat} {a : Nat → T} {k' n' : Int} {s' : ByteArray} {A : Option Addr} {m' c : Nat} (h : TP w S (.mk k n s m a) (.agg #[.int .i64 k', .int .i64 n', .string s', .slice A m' c])) :
 k' = k ∧ n' = n ∧ s' = s ∧ m' = m ∧ m ≤ c ∧ (A = none → c = 0) ∧ ∀ i, i < m → ∃ (b : Nat) (u0 u1 : Int) (u2 : ByteArray) (U : Option Addr) (q d : Nat), A = some ⟨b, 0, none⟩ ∧ b < w.heap.size ∧ w.cell? ⟨b, 4 * i, none⟩ = some (.int .i64 u0) ∧ w.cell? ⟨b, 4 * i + 1, none⟩ = some (.int .i64 u1) ∧ w.cell? ⟨b, 4 * i + 2, none⟩ = some (.string u2) ∧ w.cell? ⟨b, 4 * i + 3, none⟩ = some (.slice U q d) ∧ TP w S (a i) (.agg #[.int .i64 u0, .int .i64 u1, .string u2, .slice U q d]) := by
 obtain ⟨A', c', e, hc, hA, hx⟩ := h
 injection e with e
 simp only [Array.mk.injEq, List.cons.injEq, and_true] at e
 obtain ⟨e0, e1, e2, e3⟩ := e
 injection e0 with _ e0
 injection e1 with _ e1
 injection e2 with e2
 injection e3 with e3 e4 e5
 subst e0 e1 e2 e3 e4 e5
 refine ⟨rfl, rfl, rfl, rfl, hc, hA, fun i hi => ?_⟩
 obtain ⟨b, cs, f, rfl, _, hb, hcs⟩ := hx (by omega)
 obtain ⟨v0, v1, v2, v3, h0, h1, h2, h3, ht⟩ := hcs i hi
 obtain ⟨u0, u1, u2, U, q, d, he⟩ := ht.agg
 injection he with he
 simp only [Array.mk.injEq, List.cons.injEq, and_true] at he
 obtain ⟨rfl, rfl, rfl, rfl⟩ := he
 exact ⟨b, u0, u1, u2, U, q, d, rfl, heap_lt hb, (cell_of_row w b _ _ _ _ hb).trans h0, (cell_of_row w b _ _ _ _ hb).trans h1, (cell_of_row w b _ _ _ _ hb).trans h2, (cell_of_row w b _ _ _ _ hb).trans h3, ht⟩
theorem ba_ext {s : ByteArray} {l : List UInt8} (h : s.data.toList = l) : s = ba l := by rw [← h, ba_eq]
theorem TP.at_ {w w' : World} {S : Nat → Prop} {t : T} {v : Value} (h : TP w S t v) (hb : Below w.heap.size w w') : TIn w' w'.heap.size t v := (h.below hb).tin
set_option maxRecDepth 100000 in
set_option maxHeartbeats 8000000 in
theorem readnumbers_any (n : Int) (hn : I64 n) (w : World) (h : Bs w) : Calls Tryz.prog 7 #[.int .i64 n] w fun e w' => e = .returned (.bool true) ∧ Below w.heap.size w w' := by
 have HB := Lib.hid h
 have HI := Lib.hid hn
 clear h
 go_enter Tryz.func7, Tryz.ntmps7
 go_wp2_with fail
 refine (rprint_any n _ hn.1 hn.2).mono ?_
 rintro e w0 ⟨⟨s, rfl, hs⟩, hw⟩
 subst hw
 have hsz : s.size ≤ 30 := by
  have h1 := Lib.itoa_length_le n hn.1 hn.2
  rw [← len_u, hs]
  omega
 have HS := Lib.hid (show s = ba (Lib.itoa n) from ba_ext hs)
 have HS2 := Lib.hid (show (⟨#[102, 40, 32]⟩ : ByteArray) ++ s ++ ⟨#[32, 41]⟩ = ba ([102, 40, 32] ++ Lib.itoa n ++ [32, 41]) from ba_ext (by simp [hs]))
 have C1 := Lib.hid ((HB.out.one s).mono fun e w' h => h.ok (by rw [HS.out]; exact sent_int HI.out))
 clear hn hs
 go_wp2_with fail
 refine C1.out.mono ?_
 rintro e w1 ⟨k1, n1, nm1, A1, m1, c1, NA1, nn1, nc1, p1, rfl, ht1, hg1, hd1, ho1, hl1, hb1⟩
 obtain ⟨rfl, rfl, rfl, rfl, _, _, _⟩ := ht1.parts
 have T1 := Lib.hid ht1
 have B1 := Lib.hid hb1
 have AX1 := Lib.hid ((Below.refl w1.heap.size w1).alloc (Nat.le_refl _) (Obj.cells #[.int .i64 2, .int .i64 n1, .string ⟨#[]⟩, .slice A1 0 c1, .slice NA1 nn1 nc1] 34))
 have X1 := Lib.hid (heap_alloc_new w1 (Obj.cells #[.int .i64 2, .int .i64 n1, .string ⟨#[]⟩, .slice A1 0 c1, .slice NA1 nn1 nc1] 34))
 have hw1 := hb1.size
 have C2 := Lib.hid (((HB.out.below (B1.out.trans (AX1.out.mono hw1))).one ((⟨#[102, 40, 32]⟩ : ByteArray) ++ s ++ ⟨#[32, 41]⟩)).mono fun e w' h => h.ok (by rw [HS2.out]; exact sent_fint HI.out))
 clear ht1 hg1 hd1 ho1 hl1 hb1 C1
 go_wp2_with fail
 refine C2.out.mono ?_
 rintro e w2 ⟨k2, n2, nm2, A2, m2, c2, NA2, nn2, nc2, p2, rfl, ht2, hg2, hd2, ho2, hl2, hb2⟩
 obtain ⟨rfl, rfl, rfl, hm2, hc2, hA2, hx2⟩ := ht2.parts
 obtain rfl : m2 = 1 := hm2
 obtain ⟨g, u0, u1, u2, U, q, d, rfl, hgl, d0, d1, d2, d3, htu⟩ := hx2 0 (by simp)
 have TU := Lib.hid (show TP w2 _ (inT n1) _ from htu)
 have B2 := Lib.hid ((B1.out.trans (AX1.out.mono hw1)).trans (hb2.mono (Nat.le_trans hw1 AX1.out.size)))
 have hgl := hgl
 have D := Lib.hid (show w2.cell? ⟨g, 0, none⟩ = some (.int .i64 u0) ∧ w2.cell? ⟨g, 1, none⟩ = some (.int .i64 u1) ∧ w2.cell? ⟨g, 2, none⟩ = some (.string u2) ∧ w2.cell? ⟨g, 3, none⟩ = some (.slice U q d) from ⟨d0, d1, d2, d3⟩)
 have X12 := Lib.hid ((hb2.block _ (heap_lt X1.out)).trans X1.out)
 have T12 := Lib.hid (T1.out.below (AX1.out.trans (hb2.mono AX1.out.size)))
 have AX2 := Lib.hid ((Below.refl w2.heap.size w2).alloc (Nat.le_refl _) (Obj.cells #[.int .i64 4, .int .i64 0, .string fS, .slice (some ⟨g, 0, none⟩) 1 c2, .slice NA2 nn2 nc2] 34))
 have X2 := Lib.hid (heap_alloc_new w2 (Obj.cells #[.int .i64 4, .int .i64 0, .string fS, .slice (some ⟨g, 0, none⟩) 1 c2, .slice NA2 nn2 nc2] 34))
 have hw2 := B2.out.size
 have C3 := Lib.hid ((onexn_any s (w2.alloc (Obj.cells #[.int .i64 4, .int .i64 0, .string fS, .slice (some ⟨g, 0, none⟩) 1 c2, .slice NA2 nn2 nc2] 34))).mono fun e w' h => h.ok (by rw [HS.out]; exact sent_int HI.out))
 clear ht2 hg2 hd2 ho2 hl2 hb2 C2 hx2 htu d0 d1 d2 d3
 go_wp2_with fail
 refine C3.out.mono ?_
 rintro e w3 ⟨k3, n3, nm3, A3, m3, c3, NA3, nn3, nc3, p3, rfl, ht3, hg3, hd3, ho3, hl3, hb3⟩
 obtain ⟨rfl, rfl, rfl, rfl, _, _, _⟩ := ht3.parts
 have AX3 := Lib.hid ((Below.refl w3.heap.size w3).alloc (Nat.le_refl _) (Obj.cells #[.int .i64 2, .int .i64 n3, .string ⟨#[]⟩, .slice A3 0 c3, .slice NA3 nn3 nc3] 34))
 have K3 := Lib.hid (AX2.out.trans ((hb3.trans (AX3.out.mono hb3.size)).mono AX2.out.size))
 obtain ⟨w4, hw4⟩ : ∃ w4, w4 = w3.alloc (Obj.cells #[.int .i64 2, .int .i64 n3, .string ⟨#[]⟩, .slice A3 0 c3, .slice NA3 nn3 nc3] 34) := ⟨_, rfl⟩
 have X3 := Lib.hid (show w4.heap[w3.heap.size]? = some (Obj.cells #[.int .i64 2, .int .i64 n3, .string ⟨#[]⟩, .slice A3 0 c3, .slice NA3 nn3 nc3] 34 (0, 0)) by rw [hw4]; exact heap_alloc_new w3 _)
 have T3 := Lib.hid (show TP w4 _ (inT n3) _ by rw [hw4]; exact ht3.below AX3.out)
 rw [← hw4] at K3
 have X14 := Lib.hid ((K3.out.block _ (heap_lt X12.out)).trans X12.out)
 have X24 := Lib.hid (show w4.heap[w2.heap.size]? = some (Obj.cells #[.int .i64 4, .int .i64 0, .string fS, .slice (some ⟨g, 0, none⟩) 1 c2, .slice NA2 nn2 nc2] 34 (0, 0)) by rw [hw4]; exact ((AX3.out.block _ (Nat.lt_of_lt_of_le (heap_lt X2.out) hb3.size)).trans ((hb3.block _ (heap_lt X2.out)).trans X2.out)))
 have T14 := Lib.hid (T12.out.below K3.out)
 have TU4 := Lib.hid (TU.out.below K3.out)
 have B4 := Lib.hid (B2.out.trans (K3.out.mono hw2))
 have hgl4 : g < w4.heap.size := Nat.lt_of_lt_of_le hgl K3.out.size
 have D4 := Lib.hid (show w4.cell? ⟨g, 0, none⟩ = some (.int .i64 u0) ∧ w4.cell? ⟨g, 1, none⟩ = some (.int .i64 u1) ∧ w4.cell? ⟨g, 2, none⟩ = some (.string u2) ∧ w4.cell? ⟨g, 3, none⟩ = some (.slice U q d) from
  ⟨(K3.out.cell (p := ⟨g, 0, none⟩) hgl).trans D.out.1, (K3.out.cell (p := ⟨g, 1, none⟩) hgl).trans D.out.2.1, (K3.out.cell (p := ⟨g, 2, none⟩) hgl).trans D.out.2.2.1, (K3.out.cell (p := ⟨g, 3, none⟩) hgl).trans D.out.2.2.2⟩)
 have HW4 := Lib.hid hw4
 have KP := Lib.hid (show ∀ W, Below w4.heap.size w4 W → W.cell? ⟨w1.heap.size, 0, none⟩ = some (.int .i64 2) ∧ W.cell? ⟨w1.heap.size, 1, none⟩ = some (.int .i64 n3) ∧ W.cell? ⟨w1.heap.size, 2, none⟩ = some (.string ⟨#[]⟩) ∧ W.cell? ⟨w1.heap.size, 3, none⟩ = some (.slice A1 0 c1) ∧
  W.cell? ⟨w3.heap.size, 0, none⟩ = some (.int .i64 2) ∧ W.cell? ⟨w3.heap.size, 1, none⟩ = some (.int .i64 n3) ∧ W.cell? ⟨w3.heap.size, 2, none⟩ = some (.string ⟨#[]⟩) ∧ W.cell? ⟨w3.heap.size, 3, none⟩ = some (.slice A3 0 c3) ∧
  W.cell? ⟨w2.heap.size, 3, none⟩ = some (.slice (some ⟨g, 0, none⟩) 1 c2) ∧ W.cell? ⟨g, 0, none⟩ = some (.int .i64 u0) ∧ W.cell? ⟨g, 1, none⟩ = some (.int .i64 u1) ∧ W.cell? ⟨g, 2, none⟩ = some (.string u2) ∧ W.cell? ⟨g, 3, none⟩ = some (.slice U q d) from fun W k => by
  obtain ⟨a0, a1, a2, a3, _⟩ := box5 ((k.block _ (heap_lt X14.out)).trans X14.out)
  obtain ⟨b0, b1, b2, b3, _⟩ := box5 ((k.block _ (heap_lt X3.out)).trans X3.out)
  obtain ⟨_, _, _, e3, _⟩ := box5 ((k.block _ (heap_lt X24.out)).trans X24.out)
  exact ⟨a0, a1, a2, a3, b0, b1, b2, b3, e3, (k.cell (p := ⟨g, 0, none⟩) hgl4).trans D4.out.1, (k.cell (p := ⟨g, 1, none⟩) hgl4).trans D4.out.2.1, (k.cell (p := ⟨g, 2, none⟩) hgl4).trans D4.out.2.2.1, (k.cell (p := ⟨g, 3, none⟩) hgl4).trans D4.out.2.2.2⟩)
 have CA := Lib.hid (fun (W : World) (k : Below w4.heap.size w4 W) => same_any (inT n3) (.agg #[.int .i64 2, .int .i64 n3, .string ⟨#[]⟩, .slice A1 0 c1]) (.agg #[.int .i64 2, .int .i64 n3, .string ⟨#[]⟩, .slice A3 0 c3]) W (T14.out.at_ k) (T3.out.at_ k) (by simp [inT, T.nodes, sumTo]))
 have CB := Lib.hid (fun (W : World) (k : Below w4.heap.size w4 W) => same_any (inT n3) (.agg #[.int .i64 u0, .int .i64 u1, .string u2, .slice U q d]) (.agg #[.int .i64 2, .int .i64 n3, .string ⟨#[]⟩, .slice A1 0 c1]) W (TU4.out.at_ k) (T14.out.at_ k) (by simp [inT, T.nodes, sumTo]))
 clear ht3 hg3 hd3 ho3 hl3 hb3 C3 hw4
 go_wp2_with fail
 rw [← HW4.out]
 have b0 := (Below.refl w4.heap.size w4).drew
 have hn3 : (n3 == n3) = true := beq_self_eq_true _
 have hg4 := hgl4
 go_region_held3 (fun W => W.cell? ⟨w1.heap.size, 0, none⟩ = some (.int .i64 2) ∧ W.cell? ⟨w1.heap.size, 1, none⟩ = some (.int .i64 n3) ∧ W.cell? ⟨w1.heap.size, 2, none⟩ = some (.string ⟨#[]⟩) ∧ W.cell? ⟨w1.heap.size, 3, none⟩ = some (.slice A1 0 c1) ∧
  W.cell? ⟨w3.heap.size, 0, none⟩ = some (.int .i64 2) ∧ W.cell? ⟨w3.heap.size, 1, none⟩ = some (.int .i64 n3) ∧ W.cell? ⟨w3.heap.size, 2, none⟩ = some (.string ⟨#[]⟩) ∧ W.cell? ⟨w3.heap.size, 3, none⟩ = some (.slice A3 0 c3) ∧
  W.cell? ⟨w2.heap.size, 3, none⟩ = some (.slice (some ⟨g, 0, none⟩) 1 c2) ∧ W.cell? ⟨g, 0, none⟩ = some (.int .i64 u0) ∧ W.cell? ⟨g, 1, none⟩ = some (.int .i64 u1) ∧ W.cell? ⟨g, 2, none⟩ = some (.string u2) ∧ W.cell? ⟨g, 3, none⟩ = some (.slice U q d))
  (first | (with_reducible exact KP.out _ b0) | (with_reducible exact KP.out _ b1) | (with_reducible exact KP.out _ b2))
  ((first
    | ((with_reducible refine (CA.out _ b0).mono ?_); rintro e w5 ⟨rfl, k⟩; have b1 := b0.trans (k.mono b0.size); clear k)
    | ((with_reducible refine (CB.out _ b1).mono ?_); rintro e w6 ⟨rfl, k⟩; have b2 := b1.trans (k.mono b1.size); clear k)))
 go_wp2_with fail
 go_ret
 exact ⟨rfl, B4.out.trans (b2.mono B4.out.size)⟩
end Go.Proofs.YtlogcealmiokkaaGreatDoor
