/- The iterator slices.Backward over terms: its contract. -/
import Derived.RangeFuncNested
import Derived.RangeFuncBound
import Derived.RangeFuncCalls
import Derived.RangeFuncLeaves
import Derived.Shelf.Abstract
import Derived.Shelf.RegionOpen
import Derived.WalkKit
import Derived.OwnWalkIn
import Derived.TacticsInMore
import Derived.LoopNIn
import Derived.LoopIn
import Derived.Test.YtlogcealmiokkaaGreatDoorKRq9
namespace Go.Proofs.YtlogcealmiokkaaGreatDoor
open Go.RowKit Go.Shelf
attribute [local go_sem] Oper.semAt_some
def Kb1 (n1 rb : Nat) (W W' : World) : Prop := ∀ b, b < n1 → b ≠ rb → W'.heap[b]? = W.heap[b]?
theorem Kb1.refl (n1 rb : Nat) (W : World) : Kb1 n1 rb W W := fun _ _ _ => rfl
theorem Kb1.trans {n1 rb : Nat} {A B C : World} (h : Kb1 n1 rb A B) (k : Kb1 n1 rb B C) : Kb1 n1 rb A C := fun b h1 h2 => (k b h1 h2).trans (h b h1 h2)
def valAt (cs : Array Value) (i : Nat) : Value := .agg #[cs.getD (4 * i) undef, cs.getD (4 * i + 1) undef, cs.getD (4 * i + 2) undef, cs.getD (4 * i + 3) undef]
def encB {nn : Nat} (cs : Array Value) (x : Fin nn) : Array Value := #[.int .i64 (x.1 : Int), valAt cs x.1]
def downL : Nat → List Nat
 | 0 => []
 | i + 1 => i :: downL i
def cameL (nn i : Nat) : List Nat := (downL nn).take (nn - i)
theorem down_len : ∀ n, (downL n).length = n
 | 0 => rfl
 | n + 1 => by simp [downL, down_len n]
theorem down_get : ∀ (n k : Nat), k < n → (downL n)[k]? = some (n - 1 - k)
 | 0, k, h => absurd h (by omega)
 | n + 1, 0, _ => by simp [downL]
 | n + 1, k + 1, h => by
  rw [downL, List.getElem?_cons_succ, down_get n k (by omega)]
  congr 1
  omega
theorem came_step {nn i : Nat} (h : i < nn) : cameL nn i = cameL nn (i + 1) ++ [i] := by
 unfold cameL
 rw [show nn - i = (nn - (i + 1)) + 1 by omega, List.take_add_one, down_get nn (nn - (i + 1)) (by omega)]
 congr 2
 simp
 omega
theorem came_end (nn : Nat) : cameL nn 0 = downL nn := by
 unfold cameL
 rw [List.take_of_length_le]
 rw [down_len]; omega
theorem came_start (nn : Nat) : cameL nn nn = [] := by simp [cameL]
set_option maxRecDepth 100000 in
set_option maxHeartbeats 4000000 in
theorem back1_in (n l sb g nn cc n1 rb : Nat) (cs : Array Value) (hn : 1 ≤ n) (hnn : nn ≤ 1000) (J Jx : List (Fin nn) → World → Prop) (W : World) (hsb : sb < n1 ∧ sb ≠ rb) (hgb : g < n1 ∧ g ≠ rb) {fs fg : Nat × Nat}
 (hb : W.heap[sb]? = some (.cells #[.slice (some ⟨g, 0, none⟩) nn cc] 29 fs)) (hc : W.heap[g]? = some (.cells cs 31 fg)) (hcs : ∀ k, k < nn * 4 → ∃ v, cs[k]? = some v)
 (hY : ∀ pre x W1, J pre W1 → pre.length < nn → YieldAt Fence.wide (n - 1) Tryz.prog l (encB cs x) W1 fun e W' =>
   (e = .returned (.bool true) ∧ J (pre ++ [x]) W' ∧ Kb1 n1 rb W1 W') ∨ (e = .returned (.bool false) ∧ Jx (pre ++ [x]) W')) (h0 : J [] W) :
 CallsIn Fence.wide n Tryz.prog 106 #[.func (.yield l) #[] #[], .pointer (some ⟨sb, 0, none⟩)] W fun e W' => (∃ v, e = .returned v) ∧
  ((∃ ys, ys.map Fin.val = downL nn ∧ J ys W') ∨ (∃ pre, True ∧ Jx pre W')) := by
 have s0 := cell_of_row W sb 0 _ _ _ hb
 refine callsIn_of_wp Tryz.func106 rfl trivial ?_ rfl
 simp only [Tryz.ntmps106, List.size_toArray, List.length_cons, List.length_nil, Nat.reduceAdd, Nat.reduceSub, Array.replicate_succ, Array.replicate_zero, List.push_toArray, List.append_toArray, List.nil_append, List.cons_append]
 gi_wp2
 gi_loopw [3] (fun iv wr => ∃ (i : Nat) (pre : List (Fin nn)), iv = .int .i64 ((i : Int) - 1) ∧ i ≤ nn ∧ Hid (pre.map Fin.val = cameL nn i) ∧ Hid (wr.heap[sb]? = some (.cells #[.slice (some ⟨g, 0, none⟩) nn cc] 29 fs)) ∧ Hid (wr.heap[g]? = some (.cells cs 31 fg)) ∧ Hid (J pre wr)) (fun iv _ => (intOf iv + 1).toNat)
 case atStart => exact ⟨nn, [], by simp, Nat.le_refl _, Lib.hid (by rw [came_start]; rfl), Lib.hid hb, Lib.hid hc, Lib.hid h0⟩
 case round =>
  obtain ⟨i, pre, rfl, hi, hx, hbt, hct, hJs⟩ := hrel
  cases i with
  | zero =>
   gi_wp2
   go_end0
   exact ⟨⟨_, rfl⟩, .inl ⟨pre, by rw [hx.out, came_end], hJs.out⟩⟩
  | succ i =>
   rw [show (((i + 1 : Nat) : Int) - 1) = (i : Int) by omega]
   have hlen : pre.length < nn := by
    have := congrArg List.length hx.out
    rw [List.length_map, cameL, List.length_take, down_len] at this
    omega
   obtain ⟨x, hxv⟩ : ∃ x : Fin nn, x.1 = i := ⟨⟨i, by omega⟩, rfl⟩
   obtain ⟨v0, h0'⟩ := hcs (4 * i) (by omega)
   obtain ⟨v1, h1'⟩ := hcs (4 * i + 1) (by omega)
   obtain ⟨v2, h2'⟩ := hcs (4 * i + 2) (by omega)
   obtain ⟨v3, h3'⟩ := hcs (4 * i + 3) (by omega)
   have hval : valAt cs i = .agg #[v0, v1, v2, v3] := by
    unfold valAt
    simp only [Array.getD_eq_getD_getElem?, h0', h1', h2', h3', Option.getD_some]
   have hr := fun (k : Nat) => cell_of_row wr g k _ _ _ hct.out
   have c0 : wr.cell? ⟨g, i * 4, none⟩ = some v0 := by rw [hr, Nat.mul_comm]; exact h0'
   have c1 : wr.cell? ⟨g, i * 4 + 1, none⟩ = some v1 := by rw [hr, Nat.mul_comm]; exact h1'
   have c2 : wr.cell? ⟨g, i * 4 + 2, none⟩ = some v2 := by rw [hr, Nat.mul_comm]; exact h2'
   have c3 : wr.cell? ⟨g, i * 4 + 3, none⟩ = some v3 := by rw [hr, Nat.mul_comm]; exact h3'
   have hs0 := cell_of_row wr sb 0 _ _ _ hbt.out
   have hin : (i : Int) < (nn : Int) := by omega
   obtain ⟨fn, tmps, assign, body, hy, hR⟩ := hY pre x wr hJs.out hlen
   unfold encB at hy
   rw [hxv, hval] at hy
   have HX := Lib.hid (show (pre ++ [x]).map Fin.val = cameL nn i by rw [List.map_append, hx.out, List.map_singleton, hxv]; exact (came_step (by omega)).symm)
   clear hxv hval hr h0' h1' h2' h3'
   gi_wp2
   refine hR.mono ?_
   rintro e W3 (⟨rfl, hJ3, hk3⟩ | ⟨rfl, hJx3⟩)
   ·have hb3 := Lib.hid ((hk3 sb hsb.1 hsb.2).trans hbt.out)
    have hc3 := Lib.hid ((hk3 g hgb.1 hgb.2).trans hct.out)
    have HJ := Lib.hid hJ3
    clear hk3 hJ3
    gi_wp2
    go_roundw
    case rel => exact ⟨i, pre ++ [x], by first | rfl | go_num, by omega, HX, hb3, hc3, HJ⟩
    case measure => simp [intOf]
   ·gi_wp2
    refine bodyPost_ret (results_none rfl _ _ _) rfl ?_
    exact ⟨⟨_, rfl⟩, .inr ⟨pre ++ [x], trivial, hJx3⟩⟩
theorem back_stops (n sb g nn cc n1 rb : Nat) (cs : Array Value) (w : World) (hn : 1 ≤ n) (hnn : nn ≤ 1000) (hsb : sb < n1 ∧ sb ≠ rb) (hgb : g < n1 ∧ g ≠ rb) {fs fg : Nat × Nat}
 (hb : w.heap[sb]? = some (.cells #[.slice (some ⟨g, 0, none⟩) nn cc] 29 fs)) (hc : w.heap[g]? = some (.cells cs 31 fg)) (hcs : ∀ k, k < nn * 4 → ∃ v, cs[k]? = some v) :
 SeqStopsK Fence.wide n Tryz.prog 106 #[.pointer (some ⟨sb, 0, none⟩)] (encB (nn := nn) cs) (Kb1 n1 rb) (fun ys => ys.map Fin.val = downL nn) (fun _ => True) nn w := fun l J Jx W hW _ _ hY h0 =>
 back1_in n l sb g nn cc n1 rb cs hn hnn J Jx W hsb hgb ((hW.block sb (heap_lt hb)).trans hb) ((hW.block g (heap_lt hc)).trans hc) hcs hY h0
theorem backward_any (v : Value) (A : Option Addr) (nn cc : Nat) (hv : v = .slice A nn cc) (w : World) : Calls Tryz.prog 96 #[v] w fun e w' => e = .returned (.func (.func 106) #[] #[.pointer (some ⟨w.heap.size, 0, none⟩)]) ∧ w' = w.alloc (.cells #[v] 29) := by
 subst hv
 go_enter Tryz.func96, Tryz.ntmps96
 go_wp2
 go_ret
 exact ⟨rfl, rfl⟩
end Go.Proofs.YtlogcealmiokkaaGreatDoor
