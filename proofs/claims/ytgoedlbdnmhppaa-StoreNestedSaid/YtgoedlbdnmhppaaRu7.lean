/- The walks through coneyref08.Env's Unify, Bound, New. -/
import Derived.Test.YtgoedlbdnmhppaaRu6
import Derived.Deep.DeepCutAuto
namespace Go.Proofs.Ytgoedlbdnmhppaa
open Go.RowKit
attribute [local go_sem ↓] Go.wp_at_zero Go.wp_at_succ

/-- The reference's environment in memory. -/
structure RB (w : World) (rb : Nat) (L : Bs) : Prop where
  blk : ∃ A c, w.heap[rb]? = some (.cells #[.slice A (List.length L) c] 85 (0, 0)) ∧ BL w A c L
  ok : EnvOk L
theorem RB.below {w w' : World} {rb : Nat} {L : Bs} (h : RB w rb L) (hb : Below w.heap.size w w') : RB w' rb L := by
  obtain ⟨⟨A, c, h1, h2⟩, h3⟩ := h
  exact ⟨⟨A, c, (hb.block _ (heap_lt h1)).trans h1, h2.below hb⟩, h3⟩
theorem RB.lt {w : World} {rb : Nat} {L : Bs} (h : RB w rb L) : rb < w.heap.size := by
  obtain ⟨⟨A, c, h1, _⟩, _⟩ := h
  exact heap_lt h1
/-- What Unify comes to. -/
def RUnifyP (r : Res) (L : Bs) (w : World) (rb : Nat) (e : Ending) (w' : World) : Prop := (match r with
  | .ok L1 _ => ∃ v M, L1 = L ++ M ∧ e = .returned (.tuple #[v, .int .i64 0]) ∧ IRow w' v (M.map Prod.fst) ∧ RB w' rb L1
  | .many => e = .returned (.tuple #[.slice none 0 0, .int .i64 34]) ∧ RB w' rb L
  | .unlike => e = .returned (.tuple #[.slice none 0 0, .int .i64 80]) ∧ RB w' rb L) ∧ But rb w w'
theorem BL.set {w : World} {A : Option Addr} {c : Nat} {L : Bs} (h : BL w A c L) {rb : Nat} {cs : Array Value} {m : Nat × Nat} (hb : w.heap[rb]? = some (.cells cs 85 m)) (i : Nat) (u : Value) : BL (w.setCell ⟨rb, i, none⟩ u) A c L := by
  have key : ∀ (b : Nat) (cs' : Array Value) (ty : TypeId) (f : Nat × Nat), w.heap[b]? = some (.cells cs' ty f) → ty ≠ 85 → (w.setCell ⟨rb, i, none⟩ u).heap[b]? = some (.cells cs' ty f) := fun b cs' ty f hh hne => by
    refine (Below.heap_setCell _ _ _ b ?_).trans hh
    rintro rfl
    rw [show w.heap[_]? = _ from hb] at hh
    injection hh with hh
    injection hh with _ hh
    exact hne hh.symm
  refine ⟨h.cap, h.nil, h.few, fun i p hp => ?_⟩
  obtain ⟨b, cs', f, k0, k1, k2, A0, m0, c0, hA, hh, h0, h1, h2, h3, h4, ht⟩ := h.cells i p hp
  exact ⟨b, cs', f, k0, k1, k2, A0, m0, c0, hA, key _ _ _ _ hh (by decide), h0, h1, h2, h3, h4, ht.keep fun b cs f hS hh => ⟨key _ _ _ _ hh (by decide), hS⟩⟩
set_option maxRecDepth 100000 in
set_option maxHeartbeats 4000000 in
theorem rbound_any {w : World} {rb : Nat} {L : Bs} (h : RB w rb L) (n : Int) :
    Calls Try.prog 53 #[.pointer (some ⟨rb, 0, none⟩), .int .i64 n] w fun e w' => e = .returned (.bool (findB L n).isSome) ∧ Below w.heap.size w w' := by
  obtain ⟨⟨A, c, h1, h2⟩, _⟩ := h
  have e0 := cell_of_row w rb 0 _ _ _ h1
  have hl := heap_lt h1
  have H2 := Lib.hid h2
  clear h1 h2
  go_enter Try.func53, Try.ntmps53
  go_wp2_with fail
  refine (rfind_any H2.out n (Below.refl _ _)).mono ?_
  rintro e w1 ⟨⟨q0, q1, q2, qA, qm, qc, rfl, _⟩, h3⟩
  have B3 := Lib.hid h3
  clear h3
  go_wp2_with fail
  go_ret
  exact ⟨rfl, B3.out.alloc B3.out.size _⟩
set_option maxRecDepth 100000 in
set_option maxHeartbeats 8000000 in
theorem runify_any {w : World} {rb : Nat} {L : Bs} (h : RB w rb L) {ta tb : T} {va vb : Value} (ha : TP w (fun _ => True) ta va) (hb : TP w (fun _ => True) tb vb) (oa : ta.ok) (ob : tb.ok) :
    Calls Try.prog 43 #[.pointer (some ⟨rb, 0, none⟩), va, vb] w fun e w' => RUnifyP (uniF 2000 L [(ta, tb)]) L w rb e w' := by
  obtain ⟨k0, k1, k2, A0, m0, c0, rfl⟩ := ha.agg
  obtain ⟨j0, j1, j2, B0, n0, d0, rfl⟩ := hb.agg
  obtain ⟨⟨A, c, hrb, hbl⟩, hok⟩ := h
  have hll := heap_lt hrb
  obtain ⟨W, hW⟩ : ∃ W, W = (w.alloc (Obj.cells #[.int .i64 k0, .int .i64 k1, .string k2, .slice A0 m0 c0] 40)).alloc (Obj.cells #[.int .i64 j0, .int .i64 j1, .string j2, .slice B0 n0 d0] 40) := ⟨_, rfl⟩
  have BW : Below w.heap.size w W := by rw [hW]; exact belA (belA (Below.refl _ _) _) _
  have g0 : W.heap[w.heap.size]? = some (.cells #[.int .i64 k0, .int .i64 k1, .string k2, .slice A0 m0 c0] 40 (0, 0)) := by rw [hW]; exact (Below.heap_alloc _ _ _ (by simp)).trans (heap_alloc_new _ _)
  have g1 : W.heap[w.heap.size + 1]? = some (.cells #[.int .i64 j0, .int .i64 j1, .string j2, .slice B0 n0 d0] 40 (0, 0)) := by rw [hW]; exact (congrArg _ (by simp)).trans (heap_alloc_new _ _)
  have g2 := (BW.block _ hll).trans hrb
  have hfew := hbl.few
  have CU := Lib.hid (show Calls Try.prog 50 #[.slice A (List.length L) c, .agg #[.int .i64 k0, .int .i64 k1, .string k2, .slice A0 m0 c0], .agg #[.int .i64 j0, .int .i64 j1, .string j2, .slice B0 n0 d0], .int .i64 0] W.drew fun e w' => UniQ (uniF 2000 L [(ta, tb)]) W.drew e w' from
    un_any 2000 W.drew A c L ta tb _ _ 0 rfl (hbl.below BW.drew) hok (ha.below BW.drew) (hb.below BW.drew) oa ob)
  have HU := Lib.hid (uniF_ok 2000 L [(ta, tb)] hok (fun p hp => by simp at hp; subst hp; exact ⟨oa, ob⟩))
  have HBL := Lib.hid hbl
  have HOK := Lib.hid hok
  have HRB := Lib.hid hrb
  have HBW := Lib.hid BW
  have x := box4 g0
  have y := box4 g1
  have z := cell_of_row W rb 0 _ _ _ g2
  obtain ⟨x0, x1, x2, x3⟩ := x
  obtain ⟨y0, y1, y2, y3⟩ := y
  have KPS := Lib.hid (show ∀ w', Below W.heap.size W w' → w'.cell? ⟨rb, 0, none⟩ = some (.slice A (List.length L) c) ∧ w'.cell? ⟨w.heap.size, 0, none⟩ = some (.int .i64 k0) ∧ w'.cell? ⟨w.heap.size, 1, none⟩ = some (.int .i64 k1) ∧ w'.cell? ⟨w.heap.size, 2, none⟩ = some (.string k2) ∧ w'.cell? ⟨w.heap.size, 3, none⟩ = some (.slice A0 m0 c0) ∧
      w'.cell? ⟨w.heap.size + 1, 0, none⟩ = some (.int .i64 j0) ∧ w'.cell? ⟨w.heap.size + 1, 1, none⟩ = some (.int .i64 j1) ∧ w'.cell? ⟨w.heap.size + 1, 2, none⟩ = some (.string j2) ∧ w'.cell? ⟨w.heap.size + 1, 3, none⟩ = some (.slice B0 n0 d0) from fun w' hw =>
      ⟨(hw.cell (p := ⟨rb, 0, none⟩) (heap_lt g2)).trans z, (hw.cell (p := ⟨w.heap.size, 0, none⟩) (heap_lt g0)).trans x0, (hw.cell (p := ⟨w.heap.size, 1, none⟩) (heap_lt g0)).trans x1, (hw.cell (p := ⟨w.heap.size, 2, none⟩) (heap_lt g0)).trans x2, (hw.cell (p := ⟨w.heap.size, 3, none⟩) (heap_lt g0)).trans x3,
       (hw.cell (p := ⟨w.heap.size + 1, 0, none⟩) (heap_lt g1)).trans y0, (hw.cell (p := ⟨w.heap.size + 1, 1, none⟩) (heap_lt g1)).trans y1, (hw.cell (p := ⟨w.heap.size + 1, 2, none⟩) (heap_lt g1)).trans y2, (hw.cell (p := ⟨w.heap.size + 1, 3, none⟩) (heap_lt g1)).trans y3⟩)
  have hl0 := heap_lt g0
  have hl1 := heap_lt g1
  have hl2 := heap_lt g2
  clear hbl hok ha hb hrb BW g0 g1 g2
  go_enter Try.func43, Try.ntmps43
  go_upto_region 1 with fail
  rw [← hW]
  clear hW
  go_region_held3 (fun w' => w'.cell? ⟨rb, 0, none⟩ = some (.slice A (List.length L) c) ∧ w'.cell? ⟨w.heap.size, 0, none⟩ = some (.int .i64 k0) ∧ w'.cell? ⟨w.heap.size, 1, none⟩ = some (.int .i64 k1) ∧ w'.cell? ⟨w.heap.size, 2, none⟩ = some (.string k2) ∧ w'.cell? ⟨w.heap.size, 3, none⟩ = some (.slice A0 m0 c0) ∧
      w'.cell? ⟨w.heap.size + 1, 0, none⟩ = some (.int .i64 j0) ∧ w'.cell? ⟨w.heap.size + 1, 1, none⟩ = some (.int .i64 j1) ∧ w'.cell? ⟨w.heap.size + 1, 2, none⟩ = some (.string j2) ∧ w'.cell? ⟨w.heap.size + 1, 3, none⟩ = some (.slice B0 n0 d0))
    (first | (with_reducible exact KPS.out _ (Below.refl _ _).drew) | (with_reducible exact KPS.out _ b6))
    ((go_at_call 50; (with_reducible refine CU.out.mono ?_); rintro e w6 huq; obtain ⟨s6, k6, r6, rfl, hst6, h6⟩ := huq.form; have b6 : Below W.heap.size W w6 := (Below.refl W.heap.size W).drew.trans h6))
  have HST := Lib.hid hst6
  have B6 := Lib.hid (HBW.out.trans (b6.mono HBW.out.size))
  have R6 := Lib.hid ((B6.out.block _ hll).trans HRB.out)
  have hl6 := heap_lt R6.out
  clear hst6 h6 b6 x0 x1 x2 x3 y0 y1 y2 y3 z KPS CU
  rcases HST.out with ⟨rfl, A6, c6, L2, f2, rfl, hk6, hr6, hb6⟩ | ⟨rfl, rfl, hk6, hr6⟩ | ⟨rfl, rfl, hk6, hr6⟩
  · obtain ⟨o1, o2, M, hM, hlen⟩ := HU.out _ _ hr6
    have O1 := Lib.hid o1
    have HM := Lib.hid hM
    have HR := Lib.hid hr6
    have BL6 := Lib.hid hb6
    have hml : M.length ≤ 2000 := by omega
    have hll2 : L2.length = L.length + M.length := by rw [hM, List.length_append]
    have HLL2 := Lib.hid hll2
    obtain ⟨n2, hn2⟩ : ∃ n2, n2 = List.length L2 := ⟨_, rfl⟩
    rw [← hn2]
    have HN2 := Lib.hid hn2
    have hn2le : n2 ≤ 3000 := by omega
    have hn2ge : List.length L ≤ n2 := by omega
    clear hM hr6 hb6 hlen hk6 hll2 hn2 HST o1 o2
    have z := cell_of_row w6 rb 0 _ _ _ R6.out
    go_wp2_with fail
    go_loopw [11, 12] (fun ov iv wr => ∃ (i j : Nat), iv = .int .i64 (i : Int) ∧ i = List.length L + j ∧ i ≤ n2 ∧ wr.ownsRow w6.heap.size 3 1 ov j (((M.take j).map Prod.fst).map (Value.int .i64)) ∧ Below w6.heap.size w6 wr) (fun _ iv _ => n2 - (intOf iv).toNat)
    case atStart => exact ⟨List.length L, 0, rfl, rfl, hn2ge, by simpa using ownsRow_empty _ _ _ _ (heap_alloc_new _ _), belA (Below.refl _ _) _⟩
    case round =>
      obtain ⟨i, j, rfl, hij, hi, hown, hlow⟩ := hrel
      have HIJ := Lib.hid hij
      have HO := Lib.hid hown
      have HLW := Lib.hid hlow
      have hsz := hlow.size
      have BLr := Lib.hid (BL6.out.below hlow)
      have Rr := Lib.hid ((hlow.block _ hl6).trans R6.out)
      have hlr := heap_lt Rr.out
      clear hij hown hlow z
      by_cases him : i < n2
      · have him' : (i : Int) < (n2 : Int) := by omega
        have hjm : j < M.length := by have := HIJ.out; have := HLL2.out; have := HN2.out; omega
        obtain ⟨q, hq⟩ : ∃ q, M[j]? = some q := ⟨M[j]'hjm, List.getElem?_eq_getElem _⟩
        have hq2 : L2[i]? = some q := by rw [HM.out, HIJ.out, List.getElem?_append_right (by omega)]; simpa using hq
        obtain ⟨b, _, _, _, _, _, _, rfl, hb, e0, _⟩ := BLr.out.get hq2
        have HQ := Lib.hid hq
        clear hq hq2
        go_wp2_with (at_builtin; go_must (refine wpList_push_any _ rfl _ _ _ rfl elInt8 w6.heap.size _ j _ rfl (own_below HO.out (belA (Below.refl _ _) _)) wr.heap.size 1 [.int .i64 q.1] rfl rfl ?_ ?_ (by omega) (by unfold maxLen; omega) (by simp; omega) ?_))
        · intro j' u hu
          rw [cell_of_row _ _ j' _ _ _ (heap_alloc_new _ _)]
          simpa using hu
        · intro u hu
          simp at hu
          subst hu
          rfl
        intro v9 w9 hown9 hb9
        have O9 := Lib.hid (show w9.ownsRow w6.heap.size 3 1 v9 (j + 1) (((M.take (j + 1)).map Prod.fst).map (Value.int .i64)) from by
          rw [List.take_add_one, HQ.out]
          simpa using hown9)
        have L9 := Lib.hid (show Below w6.heap.size w6 w9 from (HLW.out.alloc HLW.out.size _).trans hb9)
        clear hown9 hb9
        go_wp2_with fail
        go_roundw
        case rel => exact ⟨i + 1, j + 1, by go_num, by have := HIJ.out; omega, him, O9.out, L9.out⟩
        case measure => simp [intOf]; omega
      · obtain rfl : i = n2 := by omega
        have hj : j = M.length := by have := HIJ.out; have := HLL2.out; have := HN2.out; omega
        have z := cell_of_row wr rb 0 _ _ _ Rr.out
        have zf : wr.frozen? ⟨rb, 0, none⟩ = false := by simp [World.frozen?, Rr.out]
        have I9 := Lib.hid (show IRow wr _ (M.map Prod.fst) from by
          have := ownsRow_more HO.out (Nat.zero_le _)
          rw [hj, List.take_length] at this
          unfold IRow
          rw [List.length_map]
          exact this)
        have OW := Lib.hid HO.out.lt
        clear hj
        go_wp2_with fail
        go_ret2
        rw [HR.out]
        refine ⟨⟨_, M, HM.out, rfl, ?_, ⟨⟨A6, c6, ?_, BLr.out.set Rr.out 0 _⟩, O1.out⟩⟩, ?_⟩
        · exact own_keep I9.out fun g hg => Below.heap_setCell _ _ _ _ (by have := OW.out g hg; show g ≠ rb; omega)
        · rw [← HN2.out]; simpa using blk_set Rr.out 0 (.slice A6 i c6)
        · have h1 : But rb w wr := (But.of B6.out).trans (But.of HLW.out)
          exact ⟨h1.os, h1.tape, h1.output, by simpa using h1.size, fun q hq hne => (Below.heap_setCell _ _ _ q hne).trans (h1.block q hq hne)⟩
  · have HR := Lib.hid hr6
    clear hr6 hk6 HST
    go_wp2_with fail
    go_ret2
    rw [HR.out]
    exact ⟨⟨rfl, ⟨⟨A, c, R6.out, HBL.out.below B6.out⟩, HOK.out⟩⟩, But.of B6.out⟩
  · have HR := Lib.hid hr6
    clear hr6 hk6 HST
    go_wp2_with fail
    go_ret2
    rw [HR.out]
    exact ⟨⟨rfl, ⟨⟨A, c, R6.out, HBL.out.below B6.out⟩, HOK.out⟩⟩, But.of B6.out⟩
end Go.Proofs.Ytgoedlbdnmhppaa
