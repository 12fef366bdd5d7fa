/- The iterator script.lines: its contract. -/
import Derived.Test.YtlojlgcnhacleaaDoorRg
import Derived.Test.YtlojlgcnhacleaaDoorSk
import Derived.Test.YtlojlgcnhacleaaDoorShelf
namespace Go.Proofs.YtlojlgcnhacleaaDoor
open Go.RowKit Go.Shelf
attribute [local go_sem] Oper.semAt_some

theorem idx_feed : ∀ l : List UInt8, (Lib.index l [10] = -1 ∧ cutL l = (l, [])) ∨ ∃ i : Nat, Lib.index l [10] = (i : Int) ∧ cutL l = (l.take i, l.drop (i + 1))
  | [] => .inl ⟨rfl, rfl⟩
  | c :: l => by
    by_cases hc : c = 10
    · subst hc
      exact .inr ⟨0, by simp [Lib.index, List.isPrefixOf], by simp [cutL]⟩
    · have hp : ([10] : List UInt8).isPrefixOf (c :: l) = false := by
        simp [List.isPrefixOf]
        exact fun h => hc h.symm
      rcases idx_feed l with ⟨h1, h2⟩ | ⟨i, h1, h2⟩
      · refine .inl ⟨?_, ?_⟩
        · rw [Lib.index, hp, h1]; rfl
        · rw [cutL, if_neg hc, h2]
      · refine .inr ⟨i + 1, ?_, ?_⟩
        · rw [Lib.index, hp, h1]
          have : ((i : Int) == -1) = false := by rw [beq_eq_false_iff_ne]; omega
          rw [this]
          simp
        · rw [cutL, if_neg hc, h2]; simp
theorem cut_feedN (l : List UInt8) : ∃ b, Lib.cut l [10] = ((cutL l).1, (cutL l).2, b) := by
  unfold Lib.cut
  rcases idx_feed l with ⟨h1, h2⟩ | ⟨i, h1, h2⟩
  · rw [h1, h2]; exact ⟨false, rfl⟩
  · rw [h1, h2, if_pos (by omega)]; exact ⟨true, by simp⟩
/-- Lines, numbered. -/
def numL : Nat → List (List UInt8) → List (Int × ByteArray)
  | _, [] => []
  | k, l :: ls => ((k : Int), ba l) :: numL (k + 1) ls
theorem numL_len : ∀ (ls : List (List UInt8)) (k : Nat), (numL k ls).length = ls.length
  | [], _ => rfl
  | _ :: ls, k => by simp [numL, numL_len ls (k + 1)]
theorem cut_len : ∀ (c : UInt8) (l : List UInt8), (cutL (c :: l)).2.length < (c :: l).length := fun c l => by have := cutL_lt c l; simp only [List.length_cons]; omega
def boxLen (b0 : Nat) (W : World) : Nat := match W.cell? ⟨b0, 0, none⟩ with
  | some (.string s) => s.size
  | _ => 0
/-- A line with its number. -/
abbrev Ln := { x : Int × ByteArray // x.2.size ≤ 100000000 ∧ 1 ≤ x.1 ∧ x.1 ≤ 200000000 }
def lnV (x : Ln) : Array Value := #[.int .i64 x.1.1, .string x.1.2]
theorem cut_len1 : ∀ l : List UInt8, (cutL l).1.length ≤ l.length
  | [] => Nat.le_refl _
  | c :: l => by
    unfold cutL
    split
    · simp
    · have := cut_len1 l
      simp only [List.length_cons]
      omega
theorem strBox {W : World} {b0 : Nat} {s : ByteArray} {f : Nat × Nat} (h : W.heap[b0]? = some (.cells #[.string s] 9 f)) : W.cell? ⟨b0, 0, none⟩ = some (.string s) := cell_of_row W b0 0 _ _ _ h
theorem feed_ba : (⟨#[10]⟩ : ByteArray).data.toList = [10] := rfl
theorem ba_mk (l : List UInt8) : (⟨l.toArray⟩ : ByteArray) = ba l := rfl
set_option maxRecDepth 100000 in
set_option maxHeartbeats 4000000 in
theorem lines1_in (n l b0 n0 : Nat) (s0 : ByteArray) (mx : Int) (hn : 1 ≤ n) (hs0 : s0.size ≤ 100000000) (J Jx : List Ln → World → Prop) (W : World) (hg : 1 < n0) (hnb : n0 ≤ b0) (hJ : AbidesFrom W.heap.size J) (hJb : BoxAb b0 J)
    (hY : ∀ pre x W1, J pre W1 → (∃ r, numL 1 (linesL s0.data.toList) = pre.map Subtype.val ++ x.1 :: r) → YieldAt Fence.wide (n - 1) Tryd.prog l (lnV x) W1 fun e W' =>
      (e = .returned (.bool true) ∧ J (pre ++ [x]) W' ∧ W'.heap[b0]? = W1.heap[b0]? ∧ Below n0 W1 W') ∨ (e = .returned (.bool false) ∧ Jx (pre ++ [x]) W'))
    (hb : W.heap[b0]? = some (.cells #[.string s0] 9 (0, 0))) (hm : W.cell? ⟨1, 0, none⟩ = some (.int .i64 mx)) (h0 : J [] W) :
    CallsIn Fence.wide n Tryd.prog 23 #[.func (.yield l) #[] #[], .pointer (some ⟨b0, 0, none⟩)] W fun e W' => (∃ v, e = .returned v) ∧
      ((∃ ys, ys.map Subtype.val = numL 1 (linesL s0.data.toList) ∧ J ys W') ∨ (∃ pre, (∃ r, numL 1 (linesL s0.data.toList) = pre.map Subtype.val ++ r) ∧ Jx pre W')) := by
  have HJd := Lib.hid (fun (pre : List Ln) (W1 : World) (k : Nat) (h : J pre W1) => hJ pre W1 (W1.drewN k) none h ⟨rfl, rfl, rfl, Nat.le_refl _, fun _ _ _ => rfl⟩ (fun r e => by cases e))
  refine callsIn_of_wp Tryd.func23 rfl trivial ?_ rfl
  simp only [Tryd.ntmps23, List.size_toArray, List.length_cons, List.length_nil, Nat.reduceAdd, Nat.reduceSub, Array.replicate_succ, Array.replicate_zero, List.push_toArray, List.append_toArray, List.nil_append, List.cons_append]
  gi_wp2
  gi_loopw [3] (fun nv wr => ∃ (pre : List Ln) (t : ByteArray) (k : Nat), nv = .int .i64 (k : Int) ∧ numL 1 (linesL s0.data.toList) = pre.map Subtype.val ++ numL k (linesL t.data.toList) ∧ k + t.size ≤ s0.size + 1 ∧ 1 ≤ k ∧ Hid (wr.heap[b0]? = some (.cells #[.string t] 9 (0, 0))) ∧ Hid (wr.cell? ⟨1, 0, none⟩ = some (.int .i64 mx)) ∧ Hid (J pre wr))
    (fun _ wr => boxLen b0 wr)
  case atStart => exact ⟨[], s0, 1, rfl, rfl, by omega, by omega, Lib.hid hb, Lib.hid hm, Lib.hid h0⟩
  case round =>
    obtain ⟨pre, t, k, rfl, hx, hk, hk1, hbt, hmx, hJs⟩ := hrel
    have hc0 := strBox hbt.out
    have hm0 := hmx.out
    have HX := Lib.hid hx
    clear hx
    cases ht : (t.toList == []) with
    | true =>
      have hte : t.data.toList = [] := by have := ht; rw [ByteArray.toList_eq] at this; simpa using this
      gi_wp2
      go_end0
      exact ⟨⟨_, rfl⟩, .inl ⟨pre, by rw [HX.out, hte, lines_nil]; simp [numL], hJs.out⟩⟩
    | false =>
      obtain ⟨c, tl, htl⟩ : ∃ c tl, t.data.toList = c :: tl := by
        cases h : t.data.toList with
        | nil => rw [ByteArray.toList_eq, h] at ht; cases ht
        | cons c tl => exact ⟨c, tl, rfl⟩
      have hsz : t.data.toList.length = t.size := Array.length_toList
      have hlt := cut_len c tl
      rw [← htl, hsz] at hlt
      obtain ⟨bb, hcut⟩ := cut_feedN t.data.toList
      have hln : linesL t.data.toList = (cutL t.data.toList).1 :: linesL (cutL t.data.toList).2 := by rw [htl, lines_cons]
      obtain ⟨a1, ha1⟩ : ∃ a1, (cutL t.data.toList).1 = a1 := ⟨_, rfl⟩
      obtain ⟨a2, ha2⟩ : ∃ a2, (cutL t.data.toList).2 = a2 := ⟨_, rfl⟩
      have hl1 := cut_len1 t.data.toList
      rw [ha1, hsz] at hl1
      rw [ha1, ha2] at hcut hln
      have hsz1 : (ba a1).size = a1.length := by show (ba a1).data.size = _; simp [ba]
      obtain ⟨x, hxv⟩ : ∃ x : Ln, x.1 = ((k : Int), ba a1) := ⟨⟨((k : Int), ba a1), by show (ba a1).size ≤ _; omega, by show (1 : Int) ≤ (k : Int); omega, by show (k : Int) ≤ _; omega⟩, rfl⟩
      rw [ha2] at hlt
      have hsz2 : (ba a2).size = a2.length := by show (ba a2).data.size = _; simp [ba]
      have CC := Lib.hid (fun (W1 : World) (h : W1.cell? ⟨1, 0, none⟩ = some (.int .i64 mx)) => show Calls Tryd.prog 24 #[.string t, .string ⟨#[10]⟩] W1 fun e w' => e = .returned (.tuple #[.string (ba a1), .string (ba a2), .bool bb]) ∧ ∃ n, w' = W1.drewN n from by
        have := Tryd.strings_Cut t ⟨#[10]⟩ mx W1 (by omega) h
        rw [feed_ba, hcut] at this
        exact this)
      have HX2 := Lib.hid (show numL 1 (linesL s0.data.toList) = pre.map Subtype.val ++ (((k : Int), ba a1) :: numL (k + 1) (linesL a2)) by rw [HX.out, hln]; rfl)
      have hpl : ∃ r, numL 1 (linesL s0.data.toList) = pre.map Subtype.val ++ x.1 :: r := ⟨_, by rw [HX2.out, hxv]⟩
      clear hcut hln ha1 ha2 htl
      gi_wp2
      refine ⟨trivial, ?_⟩
      refine (callsIn_wide.2 (CC.out _ hm0)).mono ?_
      rintro e w' ⟨rfl, nd, rfl⟩
      obtain ⟨fn, tmps, assign, body, hy, hR⟩ := hY pre x (wr.drewN nd) (HJd.out _ _ _ hJs.out) hpl
      dsimp only [lnV] at hy
      rw [hxv] at hy
      have HXV := Lib.hid hxv
      clear hxv
      gi_wp2
      refine hR.mono ?_
      rintro e W3 (⟨rfl, hJ3, hk3, hB3⟩ | ⟨rfl, hJx3⟩)
      · have hb3 : W3.heap[b0]? = some (.cells #[.string t] 9 (0, 0)) := hk3.trans hbt.out
        have hc3 := strBox hb3
        have hf3 : W3.frozen? ⟨b0, 0, none⟩ = false := by simp [World.frozen?, hb3]
        have hb4 : (W3.setCell ⟨b0, 0, none⟩ (.string (ba a2))).heap[b0]? = some (.cells #[.string (ba a2)] 9 (0, 0)) := by simpa using blk_set hb3 0 (.string (ba a2))
        have hm4 : (W3.setCell ⟨b0, 0, none⟩ (.string (ba a2))).cell? ⟨1, 0, none⟩ = some (.int .i64 mx) := ((hB3.setCell (p := ⟨b0, 0, none⟩) hnb (.string (ba a2))).cell (p := ⟨1, 0, none⟩) hg).trans hm0
        have J4 := Lib.hid (hJb (pre ++ [x]) W3 (.string (ba a2)) hJ3)
        gi_wp2
        go_roundw
        case rel => exact ⟨pre ++ [x], ba a2, k + 1, by go_num, by rw [HX2.out, List.map_append, List.map_singleton, HXV.out]; simp [ba], by omega, by omega, Lib.hid hb4, Lib.hid hm4, J4⟩
        case measure =>
          unfold boxLen
          rw [strBox hb4, hc0]
          dsimp only
          omega
      · gi_wp2
        refine bodyPost_ret (results_none rfl _ _ _) rfl ?_
        exact ⟨⟨_, rfl⟩, .inr ⟨pre ++ [x], ⟨numL (k + 1) (linesL a2), by rw [HX2.out, List.map_append, List.map_singleton, HXV.out]; simp⟩, hJx3⟩⟩
theorem lines_stops (n b0 n0 : Nat) (s0 : ByteArray) (mx : Int) (w : World) (hn : 1 ≤ n) (hs0 : s0.size ≤ 100000000) (hg : 1 < n0) (hnb : n0 ≤ b0) (hb : w.heap[b0]? = some (.cells #[.string s0] 9 (0, 0))) (hm : w.cell? ⟨1, 0, none⟩ = some (.int .i64 mx)) :
    SeqB Fence.wide n Tryd.prog 23 #[.pointer (some ⟨b0, 0, none⟩)] lnV b0 n0 (fun ys => ys.map Subtype.val = numL 1 (linesL s0.data.toList)) (fun pre => ∃ r, numL 1 (linesL s0.data.toList) = pre.map Subtype.val ++ r) (fun pre x => ∃ r, numL 1 (linesL s0.data.toList) = pre.map Subtype.val ++ x.1 :: r) w := fun l J Jx W hW hJ _ hJb _ hY h0 => by
  have hl := heap_lt hb
  exact lines1_in n l b0 n0 s0 mx hn hs0 J Jx W hg hnb hJ hJb hY ((hW.block b0 hl).trans hb) ((hW.cell (p := ⟨1, 0, none⟩) (by show 1 < w.heap.size; omega)).trans hm) h0
set_option maxHeartbeats 1000000 in
theorem plines_any (s : ByteArray) (w : World) : Calls Tryd.prog 14 #[.string s] w fun e w' => e = .returned (.func (.func 23) #[] #[.pointer (some ⟨w.heap.size, 0, none⟩)]) ∧ w' = w.alloc (.cells #[.string s] 9) := by
  go_enter Tryd.func14, Tryd.ntmps14
  go_wp2
  go_ret
  exact ⟨rfl, rfl⟩
end Go.Proofs.YtlojlgcnhacleaaDoor
