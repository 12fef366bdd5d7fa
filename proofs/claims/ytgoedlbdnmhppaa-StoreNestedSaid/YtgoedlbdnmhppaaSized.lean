/- The walks through coneyref08.Sized, Size; coneylaw08.great: they return. -/
import Derived.Test.YtgoedlbdnmhppaaRu7
import Derived.Deep.RegionLaw
namespace Go.Proofs.Ytgoedlbdnmhppaa
open Go.RowKit

def SizedC (K : Nat) : Prop := ∀ (L : Bs) (t : T) (w0 w : World) (A : Option Addr) (c : Nat) (v : Value) (left : Int), EnvOk L → t.ok → BL w0 A c L → TP w0 (fun _ => True) t v → Below w0.heap.size w0 w → -1 ≤ left → left ≤ K →
  Calls Try.prog 54 #[.slice A L.length c, v, .int .i64 left] w fun e w' => (∃ z : Int, e = .returned (.int .i64 z) ∧ -1 ≤ z ∧ (z ≤ left - 1 ∨ z = -1)) ∧ Below w.heap.size w w'
set_option maxRecDepth 100000 in
set_option maxHeartbeats 8000000 in
theorem sized_any : ∀ K : Nat, K ≤ 1048576 → SizedC K := by
  intro K
  induction K with
  | zero =>
    intro _ L t w0 w A c v left _ _ _ hv _ hl0 hl1
    obtain ⟨k0, n0, s0, A0, m0, c0, rfl⟩ := hv.agg
    have hle : left ≤ 0 := by omega
    clear hv hl1
    go_enter Try.func54, Try.ntmps54
    go_wp2_with fail
    go_ret
    exact ⟨⟨-1, rfl, by omega, .inr rfl⟩, (Below.refl _ _).alloc (Nat.le_refl _) _⟩
  | succ K ih =>
    intro hK L t w0 w A c v left hL ht hbl hv hb0 hl0 hl1
    obtain ⟨k0, n0, s0, A0, m0, c0, rfl⟩ := hv.agg
    by_cases hle : left ≤ 0
    · clear hv hl1 hbl ih hb0
      go_enter Try.func54, Try.ntmps54
      go_wp2_with fail
      go_ret
      exact ⟨⟨-1, rfl, by omega, .inr rfl⟩, (Below.refl _ _).alloc (Nat.le_refl _) _⟩
    · have H := Lib.hid hbl
      have HV := Lib.hid hv
      have HB0 := Lib.hid hb0
      have IH := Lib.hid (ih (by omega))
      have hs0 := hb0.size
      have hl2 : left ≤ (K : Int) + 1 := by omega
      have hK2 : (K : Int) ≤ 1048576 := by omega
      clear hbl hv hb0 ih hl1 hK
      go_enter Try.func54, Try.ntmps54
      go_wp2_with fail
      have BX := Lib.hid (belA (Below.refl w.heap.size w) (Obj.cells #[.int .i64 k0, .int .i64 n0, .string s0, .slice A0 m0 c0] 40))
      refine (rwalk_any H.out hL HV.out ht (HB0.out.trans (BX.out.mono hs0))).mono ?_
      rintro e w1 ⟨⟨v', rfl, hv'⟩, h1⟩
      have X0 := (h1.block w.heap.size (by simp)).trans (heap_alloc_new w (Obj.cells #[.int .i64 k0, .int .i64 n0, .string s0, .slice A0 m0 c0] 40))
      have BW := Lib.hid (BX.out.trans (h1.mono (by simp)))
      have hok := hL.walk_ok ht
      obtain ⟨u, hu⟩ : ∃ u, walkN L t = u := ⟨_, rfl⟩
      rw [hu] at hv' hok
      cases u with
      | nil => exact hv'.elim
      | mk k n s m a =>
      obtain ⟨A1, c1, rfl, hmc, hA, hx⟩ := hv'
      have OK := Lib.hid hok
      have HX := Lib.hid hx
      have hm1 := hok.few
      have l0 := heap_lt X0
      have xf : ∀ i, w1.frozen? ⟨w.heap.size, i, none⟩ = false := fun i => by simp [World.frozen?, X0]
      obtain ⟨x0, x1, x2, x3⟩ := box4 X0
      have P := Lib.hid (box_put4 X0 (.int .i64 k) (.int .i64 n) (.string s) (.slice A1 m c1) rfl)
      have BP := Lib.hid (P.out.2.2.2 _ _ (Nat.le_refl _) BW.out)
      clear hx hA X0 h1 hu hok
      go_wp2_with fail
      go_loopw [2, 7] (fun lv iv wr => ∃ (i : Nat) (l : Int), iv = .int .i64 (i : Int) ∧ lv = .int .i64 l ∧ i ≤ m ∧ -1 ≤ l ∧ l ≤ left - 1 ∧ Below w.heap.size w wr ∧ wr.heap[w.heap.size]? = some (.cells #[.int .i64 k, .int .i64 n, .string s, .slice A1 m c1] 40 (0, 0))) (fun _ iv _ => m - (intOf iv).toNat)
      case atStart => exact ⟨0, left - 1, rfl, rfl, Nat.zero_le _, by omega, by omega, BP.out, P.out.1⟩
      case round =>
        clear P BP x0 x1 x2 x3 xf
        obtain ⟨i, l, rfl, rfl, hi, hl3, hl4, hb, hbox⟩ := hrel
        have HB := Lib.hid hb
        have X := Lib.hid hbox
        obtain ⟨x0, x1, x2, x3⟩ := box4 hbox
        have hgl := heap_lt hbox
        clear hb hbox
        cases hk : (k == 4) with
        | false =>
          go_wp2_with fail
          go_ret
          exact ⟨⟨l, rfl, by omega, .inl (by omega)⟩, HB.out⟩
        | true =>
          by_cases him : i < m
          · have him' : (i : Int) < (m : Int) := by omega
            by_cases hl5 : 0 ≤ l
            · obtain ⟨b, cs, fz, rfl, hSb, hbb, hcell⟩ := HX.out (by omega)
              obtain ⟨v0, v1, v2, v3, c0, c1', c2, c3, ht'⟩ := hcell i him
              obtain ⟨k0', k1, k2, A0', m0', cc0, he⟩ := ht'.agg
              injection he with he
              simp only [Array.mk.injEq, List.cons.injEq, and_true] at he
              obtain ⟨rfl, rfl, rfl, rfl⟩ := he
              have BWR := Lib.hid (HB0.out.trans (HB.out.mono hs0))
              have hbw := (BWR.out.block b (heap_lt hbb)).trans hbb
              have hbl := heap_lt hbw
              have hrc := fun (j : Nat) => cell_of_row wr b j _ _ _ hbw
              have d0 := (hrc (4 * i)).trans c0
              have d1 := (hrc (4 * i + 1)).trans c1'
              have d2 := (hrc (4 * i + 2)).trans c2
              have d3 := (hrc (4 * i + 3)).trans c3
              rw [Nat.mul_comm 4 i] at d0 d1 d2 d3
              have CI := Lib.hid (IH.out L (a i) w0 wr A c _ l hL (OK.out.arg him) H.out ht' BWR.out hl3 (by omega))
              clear hrc c0 c1' c2 c3 ht' hcell hbb hbw
              go_wp2_with fail
              refine CI.out.mono ?_
              rintro e w5 ⟨⟨z, rfl, hz1, hz2⟩, h5⟩
              have B5 := Lib.hid (HB.out.trans (h5.mono HB.out.size))
              have X5 := Lib.hid ((h5.block _ hgl).trans X.out)
              have hz3 : z ≤ left - 1 := by omega
              clear h5
              go_wp2_with fail
              go_roundw
              case rel => exact ⟨i + 1, z, by go_num, rfl, him, hz1, hz3, B5.out, X5.out⟩
              case measure => simp [intOf]; omega
            · go_wp2_with fail
              go_ret
              exact ⟨⟨l, rfl, by omega, .inl (by omega)⟩, HB.out⟩
          · have him' : ¬ (i : Int) < (m : Int) := by omega
            go_wp2_with fail
            go_ret
            exact ⟨⟨l, rfl, by omega, .inl (by omega)⟩, HB.out⟩
set_option maxRecDepth 100000 in
set_option maxHeartbeats 4000000 in
theorem rsize_any {w : World} {rb : Nat} {L : Bs} {A : Option Addr} {c : Nat} (hb : w.heap[rb]? = some (.cells #[.slice A (List.length L) c] 85 (0, 0))) (hbl : BL w A c L) (hL : EnvOk L) {t : T} {v : Value} (hv : TP w (fun _ => True) t v) (ht : t.ok) :
    Calls Try.prog 46 #[.pointer (some ⟨rb, 0, none⟩), v, .int .i64 200] w fun e w' => (∃ z : Int, e = .returned (.int .i64 z)) ∧ Below w.heap.size w w' := by
  obtain ⟨k0, n0, s0, A0, m0, c0, rfl⟩ := hv.agg
  have g0 := cell_of_row w rb 0 _ _ _ hb
  have hrl := heap_lt hb
  obtain ⟨W, hW⟩ : ∃ W, W = w.alloc (Obj.cells #[.int .i64 k0, .int .i64 n0, .string s0, .slice A0 m0 c0] 40) := ⟨_, rfl⟩
  have BX := Lib.hid (show Below w.heap.size w W by rw [hW]; exact belA (Below.refl w.heap.size w) (Obj.cells #[.int .i64 k0, .int .i64 n0, .string s0, .slice A0 m0 c0] 40))
  have CI := Lib.hid (sized_any 200 (by omega) L t w W.drew A c _ 200 hL ht hbl hv BX.out.drew (by omega) (by omega))
  have X0 : W.heap[w.heap.size]? = some (.cells #[.int .i64 k0, .int .i64 n0, .string s0, .slice A0 m0 c0] 40 (0, 0)) := by rw [hW]; exact heap_alloc_new _ _
  have hbW := (BX.out.block rb hrl).trans hb
  have gW := cell_of_row W rb 0 _ _ _ hbW
  have lW := heap_lt X0
  obtain ⟨x0, x1, x2, x3⟩ := box4 X0
  go_enter Try.func46, Try.ntmps46
  go_upto_region 2 with fail
  rw [← hW]
  clear hW X0 hbW hb hbl hv
  go_region_law (go_simp; go_at_call 54; (with_reducible refine CI.out.mono ?_); rintro e w5 ⟨⟨z, rfl, hz1, hz2⟩, h5⟩)
  all_goals
    have H5 := Lib.hid (BX.out.drew.trans (h5.mono BX.out.size))
    have hz3 : z ≤ 200 := by omega
    clear h5
    by_cases hz : z < 0
    all_goals
      go_wp2_with fail
      go_ret
      exact ⟨⟨_, rfl⟩, H5.out⟩
end Go.Proofs.Ytgoedlbdnmhppaa
