/- The reference's operators: that its functions return. -/
import Derived.Test.YtibcpdmeigdgpaaGreatDoorKHa
import Derived.WalkSpells
import Derived.Lib.Bytes
namespace Go.Proofs.YtibcpdmeigdgpaaGreatDoor
open Go.RowKit
theorem Tryz.info_str : (Tryz.prog.info? 9).map (fun i => (i.zero, i.size, i.bytes)) = some (some (.string ⟨#[]⟩), 1, 16) := by kernel_rfl
theorem elStr : El Tryz.prog 40 9 (.string ⟨#[]⟩) 1 16 := by
 obtain ⟨i0, hi, hz0, hz1, hz2⟩ := info_parts Tryz.info_str
 exact ⟨Tryz.underlying40, ⟨i0, hi, hz0, hz1, hz2⟩, rfl, by omega⟩
theorem ext_snoc {s : ByteArray} {f i : Nat} (hf : f ≤ i) (hi : i < s.size) : (s.extract f (i + 1)).data.toList = (s.extract f i).data.toList ++ [bu s i] := by
 have hl : i < s.data.toList.length := by rw [Array.length_toList]; exact hi
 have h2 : i - f < (s.data.toList.drop f).length := by rw [List.length_drop]; omega
 have e : bu s i = s.data.toList[i] := by unfold bu; rw [List.getD_eq_getElem?_getD, List.getElem?_eq_getElem hl]; rfl
 rw [e]
 simp only [ByteArray.data_extract, Array.toList_extract, List.extract]
 rw [show i + 1 - f = (i - f) + 1 by omega, List.take_succ_eq_append_getElem h2]
 congr 2
 rw [List.getElem_drop]
 congr 1
 omega
theorem ext_same (s : ByteArray) (i : Nat) : (s.extract i i).data.toList = [] := by simp
theorem drop_bu {s : ByteArray} {i : Nat} (hi : i < s.size) : s.data.toList.drop i = bu s i :: s.data.toList.drop (i + 1) := by
 have hl : i < s.data.toList.length := by rw [Array.length_toList]; exact hi
 rw [List.drop_eq_getElem_cons hl]
 congr 1
 unfold bu; rw [List.getD_eq_getElem?_getD, List.getElem?_eq_getElem hl]; rfl
def WInv (s : ByteArray) (f i : Nat) (ts : List ByteArray) : Prop :=
 (i ≤ s.size → wordsF [] s.data.toList = (ts.map fun t => t.data.toList) ++ wordsF (s.extract f i).data.toList (s.data.toList.drop i)) ∧ (s.size < i → wordsF [] s.data.toList = ts.map fun t => t.data.toList)
theorem WInv.start (s : ByteArray) : WInv s 0 0 [] := ⟨fun _ => by rw [ext_same]; rfl, fun h => absurd h (by omega)⟩
theorem WInv.last {s : ByteArray} {f : Nat} {ts : List ByteArray} (h : WInv s f s.size ts) : WInv s (s.size + 1) (s.size + 1) (ts ++ [s.extract f s.size]) := by
 refine ⟨fun h => absurd h (by omega), fun _ => ?_⟩
 rw [h.1 (Nat.le_refl _), List.drop_of_length_le (by rw [Array.length_toList]; exact Nat.le_refl _)]
 simp [wordsF]
theorem WInv.cut {s : ByteArray} {f i : Nat} {ts : List ByteArray} (h : WInv s f i ts) (hi : i < s.size) (hc : bn s i = 32) : WInv s (i + 1) (i + 1) (ts ++ [s.extract f i]) := by
 refine ⟨fun _ => ?_, fun h => absurd h (by omega)⟩
 have hc' : bu s i = 32 := by
  apply UInt8.toNat_inj.1
  exact hc
 rw [h.1 (by omega), drop_bu hi, wordsF, if_pos hc', ext_same]
 simp
theorem WInv.go {s : ByteArray} {f i : Nat} {ts : List ByteArray} (h : WInv s f i ts) (hf : f ≤ i) (hi : i < s.size) (hc : bn s i ≠ 32) : WInv s f (i + 1) ts := by
 refine ⟨fun _ => ?_, fun h => absurd h (by omega)⟩
 have hc' : bu s i ≠ 32 := fun e => hc (by rw [bn_bu, e]; rfl)
 rw [h.1 (by omega), drop_bu hi, wordsF, if_neg hc', ext_snoc hf hi]
structure WordsRel (B : Nat) (W : World) (s : ByteArray) (o fv iv : Value) (wr : World) (f i n : Nat) (ts : List ByteArray) : Prop where
 hf : fv = .int .i64 (f : Int)
 hi : iv = .int .i64 (i : Int)
 own : wr.ownsRow B 9 1 o n (ts.map Value.string)
 lo : f ≤ i
 up : i ≤ s.size + 1
 few : n ≤ i
 below : Below B W wr
 inv : Hid (WInv s f i ts)
set_option maxRecDepth 100000 in
set_option maxHeartbeats 2000000 in
theorem words_any (s : ByteArray) (w : World) (hs : s.size ≤ 5000) : Calls Tryz.prog 94 #[.string s] w fun e w' =>
 (∃ (v : Value) (n : Nat) (ts : List ByteArray), e = .returned v ∧ w'.ownsRow w.heap.size 9 1 v n (ts.map Value.string) ∧ n ≤ s.size + 1 ∧ Hid (wordsF [] s.data.toList = ts.map fun t => t.data.toList)) ∧ Below w.heap.size w w' := by
 have hb : ∀ (i : Nat) (h : i < s.size), (s[i]'h).toNat = bn s i := bn_eq s
 go_enter Tryz.func94, Tryz.ntmps94
 go_wp2
 go_loopw [3, 4, 5] (fun o fv iv wr => ∃ f i n ts, WordsRel w.heap.size w s o fv iv wr f i n ts) (fun _ _ iv _ => s.size + 1 - (intOf iv).toNat)
 case atStart =>
  exact ⟨0, 0, 0, [], rfl, rfl, ownsRow_empty _ _ _ _ (heap_alloc_new _ _), by omega, by omega, by omega, (Below.refl _ _).alloc (Nat.le_refl _) _, Lib.hid (WInv.start s)⟩
 case round =>
  obtain ⟨f, i, n, ts, hr⟩ := hrel
  obtain rfl := hr.hf
  obtain rfl := hr.hi
  have R := Lib.hid hr
  have hlo := hr.lo
  have hup := hr.up
  have hfew := hr.few
  have hsz := hr.below.size
  clear hr
  by_cases hle : i ≤ s.size
  ·have hle' : (i : Int) ≤ (s.size : Int) := by omega
   have step : Hid (WInv s (i + 1) (i + 1) (ts ++ [s.extract f i])) → (∀ (v1 : Value) (w1 : World), w1.ownsRow w.heap.size 9 1 v1 (n + 1) (ts.map Value.string ++ [.string (s.extract f i)]) → Below w.heap.size (wr.alloc (Obj.cells #[.string (s.extract f i)] 9)) w1 →
    WordsRel w.heap.size w s v1 (.int .i64 ((i : Int) + 1)) (.int .i64 ((i : Int) + 1)) w1 (i + 1) (i + 1) (n + 1) (ts ++ [s.extract f i])) := fun hI v1 w1 h1 h2 =>
    ⟨by go_num, by go_num, by simpa using h1, Nat.le_refl _, by omega, by omega, (R.out.below.alloc hsz _).trans h2, hI⟩
   have ST := Lib.hid step
   clear step
   by_cases he : i = s.size
   ·obtain rfl : i = s.size := he
    go_wp2_with (at_builtin; go_must (refine wpList_push _ rfl _ _ _ rfl elStr w.heap.size _ _ _ rfl (R.out.own.alloc _) _ _ (.string (s.extract f s.size)) rfl (by simp [go_sem]) rfl (by omega) (by unfold maxLen; omega) (by simp <;> omega) ?_); intro v1 w1 hown1 hb1)
    have R1 := ST.out (Lib.hid R.out.inv.out.last) _ _ hown1 hb1
    clear hown1 hb1
    go_roundw
    case rel => exact ⟨_, _, _, _, R1⟩
    case measure => simp [intOf] <;> omega
   ·have he' : ((i : Int) == (s.size : Int)) = false := by simp; omega
    have hlt : (i : Int) < (s.size : Int) := by omega
    cases h32 : ((bn s i : Int) == 32) with
    | true =>
     go_wp2_with (at_builtin; go_must (refine wpList_push _ rfl _ _ _ rfl elStr w.heap.size _ _ _ rfl (R.out.own.alloc _) _ _ (.string (s.extract f i)) rfl (by simp [go_sem]) rfl (by omega) (by unfold maxLen; omega) (by simp <;> omega) ?_); intro v1 w1 hown1 hb1)
     have R1 := ST.out (Lib.hid (R.out.inv.out.cut (by omega) (by simp at h32; omega))) _ _ hown1 hb1
     clear hown1 hb1
     go_roundw
     case rel => exact ⟨_, _, _, _, R1⟩
     case measure => simp [intOf] <;> omega
    | false =>
     go_wp2
     go_roundw
     case rel => exact ⟨f, i + 1, n, ts, rfl, by go_num, R.out.own, by omega, by omega, by omega, R.out.below, Lib.hid (R.out.inv.out.go hlo (by omega) (by intro e; rw [e] at h32; cases h32))⟩
     case measure => simp [intOf] <;> omega
  ·go_wp2
   go_ret
   exact ⟨⟨_, n, ts, rfl, R.out.own, by omega, Lib.hid (R.out.inv.out.2 (by omega))⟩, R.out.below⟩
set_option maxRecDepth 100000 in
set_option maxHeartbeats 2000000 in
theorem in_any (nm s : ByteArray) (w : World) (hs : s.size ≤ 5000) : Calls Tryz.prog 75 #[.string nm, .string s] w fun e w' => (∃ b, e = .returned (.bool b) ∧ Hid (inW nm s = b)) ∧ Below w.heap.size w w' := by
 go_enter Tryz.func75, Tryz.ntmps75
 go_wp2_with fail
 refine (words_any s _ hs).mono ?_
 rintro e w1 ⟨⟨v, n, ts, rfl, hown, hn, hW⟩, h1⟩
 have hl : ts.length = n := by have := own_len hown; simpa using this
 obtain ⟨A, c, rfl, hc, hA, _, hx⟩ := own_open hown
 clear hown
 go_wp2_with fail
 go_loopw [6] (fun iv wr => ∃ i : Nat, iv = .int .i64 (i : Int) ∧ i ≤ n ∧ Hid (∀ (k : Nat) (h : k < ts.length), k < i → (ts[k]'h).data.toList ≠ nm.data.toList) ∧ w1 = wr) (fun iv _ => n - (intOf iv).toNat)
 case atStart => exact ⟨0, rfl, by omega, Lib.hid (fun _ _ h => absurd h (by omega)), rfl⟩
 case round =>
  obtain ⟨i, rfl, hi, hK, rfl⟩ := hrel
  by_cases hlt : i < n
  ·have hlt' : (i : Int) < (n : Int) := by omega
   obtain ⟨g, cur, rfl, _, hg, hcur⟩ := hx (by omega)
   have hcell : w1.cell? ⟨g, i, none⟩ = some (.string (ts[i]'(by omega))) := by
    rw [cell_of_row w1 g i _ _ _ hg, hcur i (by omega)]
    simp [List.getElem?_eq_getElem (show i < ts.length by omega)]
   clear hcur hx hg
   have hil : i < ts.length := by omega
   cases hq : ((ts[i]'hil).toList == nm.toList) with
   | true =>
    go_wp2
    go_ret
    exact ⟨⟨_, rfl, Lib.hid (by
     unfold inW
     rw [hW.out, List.any_eq_true]
     exact ⟨_, List.mem_map.2 ⟨_, List.getElem_mem hil, rfl⟩, by simpa [Lib.toList_data] using hq⟩)⟩, h1⟩
   | false =>
    go_wp2
    go_roundw
    case rel => exact ⟨i + 1, by go_num, by omega, Lib.hid (fun k hk hki => by
     rcases Nat.lt_or_ge k i with h | h
     ·exact hK.out k hk h
     ·obtain rfl : k = i := by omega
      simpa [Lib.toList_data] using hq), by trivial⟩
    case measure => simp [intOf] <;> omega
  ·go_wp2
   go_ret
   exact ⟨⟨_, rfl, Lib.hid (by
    unfold inW
    rw [hW.out, List.any_eq_false]
    intro x hx
    obtain ⟨t, ht, rfl⟩ := List.mem_map.1 hx
    obtain ⟨k, hk, rfl⟩ := List.getElem_of_mem ht
    simpa using hK.out k hk (by omega))⟩, h1⟩
set_option maxRecDepth 100000 in
set_option maxHeartbeats 2000000 in
theorem infix_any (nm : ByteArray) (w : World) : Calls Tryz.prog 52 #[.string nm] w fun e w' =>
 (∃ p l r b, e = .returned (.tuple #[.int .i64 p, .int .i64 l, .int .i64 r, .bool b]) ∧ Hid (opIn nm = if b then some (p, l, r) else none)) ∧ Below w.heap.size w w' := by
 go_enter Tryz.func52, Tryz.ntmps52
 go_wp2_with fail
 refine (in_any nm _ _ (by decide)).mono ?_
 rintro e w1 ⟨⟨b1, rfl, q1⟩, h1⟩
 have B1 := h1
 clear h1
 cases b1 with
 | true =>
  skip
  go_wp2_with fail
  refine bodyPost_ret (v := .tuple #[.int .i64 1200, .int .i64 1199, .int .i64 1199, .bool true]) (by simp [results, go_sem]) rfl ?_
  exact ⟨⟨1200, 1199, 1199, true, rfl, Lib.hid (opIn_0 q1.out)⟩, B1⟩
 | false =>
  go_wp2_with fail
  refine (in_any nm _ _ (by decide)).mono ?_
  rintro e w2 ⟨⟨b2, rfl, q2⟩, h2⟩
  have B2 := B1.trans (h2.mono B1.size)
  clear h2
  cases b2 with
  | true =>
   clear B1
   go_wp2_with fail
   refine bodyPost_ret (v := .tuple #[.int .i64 1100, .int .i64 1099, .int .i64 1100, .bool true]) (by simp [results, go_sem]) rfl ?_
   exact ⟨⟨1100, 1099, 1100, true, rfl, Lib.hid (opIn_1 q1.out q2.out)⟩, B2⟩
  | false =>
   go_wp2_with fail
   refine (in_any nm _ _ (by decide)).mono ?_
   rintro e w3 ⟨⟨b3, rfl, q3⟩, h3⟩
   have B3 := B2.trans (h3.mono B2.size)
   clear h3
   cases b3 with
   | true =>
    clear B1 B2
    go_wp2_with fail
    refine bodyPost_ret (v := .tuple #[.int .i64 1050, .int .i64 1049, .int .i64 1050, .bool true]) (by simp [results, go_sem]) rfl ?_
    exact ⟨⟨1050, 1049, 1050, true, rfl, Lib.hid (opIn_2 q1.out q2.out q3.out)⟩, B3⟩
   | false =>
    go_wp2_with fail
    refine (in_any nm _ _ (by decide)).mono ?_
    rintro e w4 ⟨⟨b4, rfl, q4⟩, h4⟩
    have B4 := B3.trans (h4.mono B3.size)
    clear h4
    cases b4 with
    | true =>
     clear B1 B2 B3
     go_wp2_with fail
     refine bodyPost_ret (v := .tuple #[.int .i64 1000, .int .i64 999, .int .i64 1000, .bool true]) (by simp [results, go_sem]) rfl ?_
     exact ⟨⟨1000, 999, 1000, true, rfl, Lib.hid (opIn_3 q1.out q2.out q3.out q4.out)⟩, B4⟩
    | false =>
     go_wp2_with fail
     refine (in_any nm _ _ (by decide)).mono ?_
     rintro e w5 ⟨⟨b5, rfl, q5⟩, h5⟩
     have B5 := B4.trans (h5.mono B4.size)
     clear h5
     cases b5 with
     | true =>
      clear B1 B2 B3 B4
      go_wp2_with fail
      refine bodyPost_ret (v := .tuple #[.int .i64 760, .int .i64 759, .int .i64 759, .bool true]) (by simp [results, go_sem]) rfl ?_
      exact ⟨⟨760, 759, 759, true, rfl, Lib.hid (opIn_4 q1.out q2.out q3.out q4.out q5.out)⟩, B5⟩
     | false =>
      go_wp2_with fail
      refine (in_any nm _ _ (by decide)).mono ?_
      rintro e w6 ⟨⟨b6, rfl, q6⟩, h6⟩
      have B6 := B5.trans (h6.mono B5.size)
      clear h6
      cases b6 with
      | true =>
       clear B1 B2 B3 B4 B5
       go_wp2_with fail
       refine bodyPost_ret (v := .tuple #[.int .i64 700, .int .i64 699, .int .i64 699, .bool true]) (by simp [results, go_sem]) rfl ?_
       exact ⟨⟨700, 699, 699, true, rfl, Lib.hid (opIn_5 q1.out q2.out q3.out q4.out q5.out q6.out)⟩, B6⟩
      | false =>
       go_wp2_with fail
       refine (in_any nm _ _ (by decide)).mono ?_
       rintro e w7 ⟨⟨b7, rfl, q7⟩, h7⟩
       have B7 := B6.trans (h7.mono B6.size)
       clear h7
       cases b7 with
       | true =>
        clear B1 B2 B3 B4 B5 B6
        go_wp2_with fail
        refine bodyPost_ret (v := .tuple #[.int .i64 550, .int .i64 550, .int .i64 549, .bool true]) (by simp [results, go_sem]) rfl ?_
        exact ⟨⟨550, 550, 549, true, rfl, Lib.hid (opIn_6 q1.out q2.out q3.out q4.out q5.out q6.out q7.out)⟩, B7⟩
       | false =>
        go_wp2_with fail
        refine (in_any nm _ _ (by decide)).mono ?_
        rintro e w8 ⟨⟨b8, rfl, q8⟩, h8⟩
        have B8 := B7.trans (h8.mono B7.size)
        clear h8
        cases b8 with
        | true =>
         clear B1 B2 B3 B4 B5 B6 B7
         go_wp2_with fail
         refine bodyPost_ret (v := .tuple #[.int .i64 450, .int .i64 449, .int .i64 449, .bool true]) (by simp [results, go_sem]) rfl ?_
         exact ⟨⟨450, 449, 449, true, rfl, Lib.hid (opIn_7 q1.out q2.out q3.out q4.out q5.out q6.out q7.out q8.out)⟩, B8⟩
        | false =>
         go_wp2_with fail
         refine (in_any nm _ _ (by decide)).mono ?_
         rintro e w9 ⟨⟨b9, rfl, q9⟩, h9⟩
         have B9 := B8.trans (h9.mono B8.size)
         clear h9
         cases b9 with
         | true =>
          clear B1 B2 B3 B4 B5 B6 B7 B8
          go_wp2_with fail
          refine bodyPost_ret (v := .tuple #[.int .i64 500, .int .i64 500, .int .i64 499, .bool true]) (by simp [results, go_sem]) rfl ?_
          exact ⟨⟨500, 500, 499, true, rfl, Lib.hid (opIn_8 q1.out q2.out q3.out q4.out q5.out q6.out q7.out q8.out q9.out)⟩, B9⟩
         | false =>
          go_wp2_with fail
          refine (in_any nm _ _ (by decide)).mono ?_
          rintro e w10 ⟨⟨b10, rfl, q10⟩, h10⟩
          have B10 := B9.trans (h10.mono B9.size)
          clear h10
          cases b10 with
          | true =>
           clear B1 B2 B3 B4 B5 B6 B7 B8 B9
           go_wp2_with fail
           refine bodyPost_ret (v := .tuple #[.int .i64 400, .int .i64 400, .int .i64 399, .bool true]) (by simp [results, go_sem]) rfl ?_
           exact ⟨⟨400, 400, 399, true, rfl, Lib.hid (opIn_9 q1.out q2.out q3.out q4.out q5.out q6.out q7.out q8.out q9.out q10.out)⟩, B10⟩
          | false =>
           go_wp2_with fail
           refine (in_any nm _ _ (by decide)).mono ?_
           rintro e w11 ⟨⟨b11, rfl, q11⟩, h11⟩
           have B11 := B10.trans (h11.mono B10.size)
           clear h11
           cases b11 with
           | true =>
            clear B1 B2 B3 B4 B5 B6 B7 B8 B9 B10
            go_wp2_with fail
            refine bodyPost_ret (v := .tuple #[.int .i64 200, .int .i64 199, .int .i64 200, .bool true]) (by simp [results, go_sem]) rfl ?_
            exact ⟨⟨200, 199, 200, true, rfl, Lib.hid (opIn_10 q1.out q2.out q3.out q4.out q5.out q6.out q7.out q8.out q9.out q10.out q11.out)⟩, B11⟩
           | false =>
            go_wp2_with fail
            refine bodyPost_ret (v := .tuple #[.int .i64 0, .int .i64 0, .int .i64 0, .bool false]) (by simp [results, go_sem]) rfl ?_
            exact ⟨⟨0, 0, 0, false, rfl, Lib.hid (opIn_11 q1.out q2.out q3.out q4.out q5.out q6.out q7.out q8.out q9.out q10.out q11.out)⟩, B11⟩
set_option maxRecDepth 100000 in
set_option maxHeartbeats 2000000 in
theorem prefix_any (nm : ByteArray) (w : World) : Calls Tryz.prog 92 #[.string nm] w fun e w' =>
 (∃ p l b, e = .returned (.tuple #[.int .i64 p, .int .i64 l, .bool b]) ∧ Hid (opPre nm = if b then some (p, l) else none)) ∧ Below w.heap.size w w' := by
 go_enter Tryz.func92, Tryz.ntmps92
 go_wp2_with fail
 refine (in_any nm _ _ (by decide)).mono ?_
 rintro e w1 ⟨⟨b1, rfl, q1⟩, h1⟩
 have B1 := h1
 clear h1
 cases b1 with
 | true =>
  skip
  go_wp2_with fail
  refine bodyPost_ret (v := .tuple #[.int .i64 1200, .int .i64 1199, .bool true]) (by simp [results, go_sem]) rfl ?_
  exact ⟨⟨1200, 1199, true, rfl, Lib.hid (opPre_0 q1.out)⟩, B1⟩
 | false =>
  go_wp2_with fail
  refine (in_any nm _ _ (by decide)).mono ?_
  rintro e w2 ⟨⟨b2, rfl, q2⟩, h2⟩
  have B2 := B1.trans (h2.mono B1.size)
  clear h2
  cases b2 with
  | true =>
   clear B1
   go_wp2_with fail
   refine bodyPost_ret (v := .tuple #[.int .i64 900, .int .i64 900, .bool true]) (by simp [results, go_sem]) rfl ?_
   exact ⟨⟨900, 900, true, rfl, Lib.hid (opPre_1 q1.out q2.out)⟩, B2⟩
  | false =>
   go_wp2_with fail
   refine (in_any nm _ _ (by decide)).mono ?_
   rintro e w3 ⟨⟨b3, rfl, q3⟩, h3⟩
   have B3 := B2.trans (h3.mono B2.size)
   clear h3
   cases b3 with
   | true =>
    clear B1 B2
    go_wp2_with fail
    refine bodyPost_ret (v := .tuple #[.int .i64 200, .int .i64 200, .bool true]) (by simp [results, go_sem]) rfl ?_
    exact ⟨⟨200, 200, true, rfl, Lib.hid (opPre_2 q1.out q2.out q3.out)⟩, B3⟩
   | false =>
    go_wp2_with fail
    refine bodyPost_ret (v := .tuple #[.int .i64 0, .int .i64 0, .bool false]) (by simp [results, go_sem]) rfl ?_
    exact ⟨⟨0, 0, false, rfl, Lib.hid (opPre_3 q1.out q2.out q3.out)⟩, B3⟩
theorem endsP_top {tk : List Tk} {sz i : Nat} {x : Tk} (hx : nxT tk sz i = x) (h : x.k = 0 ∨ x.k = 6) : endsP tk sz i = true := by unfold endsP; dsimp only; rw [hx, if_pos h]
theorem endsP_mark {tk : List Tk} {sz i : Nat} {x : Tk} (hx : nxT tk sz i = x) (h : x.k = 5) : endsP tk sz i = (x.t.toList == [41] || x.t.toList == [93] || x.t.toList == [125] || x.t.toList == [44] || x.t.toList == [124]) := by
 unfold endsP; dsimp only; rw [hx, if_neg (by omega), if_pos h]
theorem endsP_atom {tk : List Tk} {sz i : Nat} {x : Tk} (hx : nxT tk sz i = x) (h : x.k = 1) : endsP tk sz i = ((opIn x.t).isSome && !(opPre x.t).isSome) := by
 unfold endsP; dsimp only; rw [hx, if_neg (by omega), if_neg (by omega), if_pos h]
theorem endsP_else {tk : List Tk} {sz i : Nat} {x : Tk} (hx : nxT tk sz i = x) (h0 : x.k ≠ 0) (h6 : x.k ≠ 6) (h5 : x.k ≠ 5) (h1 : x.k ≠ 1) : endsP tk sz i = false := by
 unfold endsP; dsimp only; rw [hx, if_neg (by omega), if_neg h5, if_neg h1]
set_option maxRecDepth 100000 in
set_option maxHeartbeats 2000000 in
theorem ends_any {c : Rdc} {i : Nat} {ns : List ByteArray} {pl er : Int} (w : World) (h : Rd w c i ns pl er) : Calls Tryz.prog 93 #[.pointer (some ⟨c.R, 0, none⟩)] w fun e w' =>
 (∃ b, e = .returned (.bool b) ∧ Hid (endsP c.tk c.s.size i = b)) ∧ Below w.heap.size w w' := by
 go_enter Tryz.func93, Tryz.ntmps93
 go_wp2_with fail
 refine (next_any _ h).mono ?_
 rintro e w1 ⟨rfl, h1⟩
 have HX0 := Lib.hid (show nxT c.tk c.s.size i = nx c i from rfl)
 generalize hx : nx c i = x at HX0
 have HX := Lib.hid HX0.out
 clear hx HX0
 have h1s := h1.size
 cases k0 : (x.k == 0) with
 | true =>
  go_wp2_with fail
  go_ret
  exact ⟨⟨_, rfl, Lib.hid (endsP_top HX.out (.inl (by simpa using k0)))⟩, h1.alloc h1s _⟩
 | false =>
  cases k6 : (x.k == 6) with
  | true =>
   go_wp2_with fail
   go_ret
   exact ⟨⟨_, rfl, Lib.hid (endsP_top HX.out (.inr (by simpa using k6)))⟩, h1.alloc h1s _⟩
  | false =>
   cases k5 : (x.k == 5) with
   | true =>
    cases t1 : (x.t.toList == [41]) <;> cases t2 : (x.t.toList == [93]) <;> cases t3 : (x.t.toList == [125]) <;> cases t4 : (x.t.toList == [44]) <;> cases t5 : (x.t.toList == [124])
    all_goals
     go_wp2_with fail
     go_ret
     exact ⟨⟨_, rfl, Lib.hid ((endsP_mark HX.out (by simpa using k5)).trans (by rw [t1, t2, t3, t4, t5]; rfl))⟩, h1.alloc h1s _⟩
   | false =>
    cases k1 : (x.k == 1) with
    | true =>
     go_wp2_with fail
     refine (infix_any _ _).mono ?_
     rintro e w2 ⟨⟨p, l, r, b, rfl, hI⟩, h2⟩
     have y1 := (box4t ((h2.block w1.heap.size (by simp)).trans (heap_alloc_new w1 (Obj.cells #[.int .i64 x.k, .string x.t, .int .i64 (x.a : Int), .int .i64 (x.b : Int)] 83)))).2.1
     have hs2 := h2.size
     go_wp2_with fail
     refine (prefix_any _ _).mono ?_
     rintro e w3 ⟨⟨p', l', b', rfl, hP⟩, h3⟩
     have B3 := Lib.hid (((h1.alloc h1s _).trans (h2.mono (by simp; omega))).trans (h3.mono (by simp at hs2; omega)))
     have HE := Lib.hid (show endsP c.tk c.s.size i = (b && !b') by
      rw [endsP_atom HX.out (by simpa using k1), hI.out, hP.out]
      cases b <;> cases b' <;> rfl)
     clear h2 h3
     cases b with
     | true =>
      go_wp2_with fail
      go_ret
      exact ⟨⟨_, rfl, Lib.hid (HE.out.trans (by cases b' <;> rfl))⟩, B3.out⟩
     | false =>
      go_wp2_with fail
      go_ret
      exact ⟨⟨_, rfl, Lib.hid (HE.out.trans (by cases b' <;> rfl))⟩, B3.out⟩
    | false =>
     go_wp2_with fail
     go_ret
     exact ⟨⟨_, rfl, Lib.hid (endsP_else HX.out (by simpa using k0) (by simpa using k6) (by simpa using k5) (by simpa using k1))⟩, h1.alloc h1s _⟩
end Go.Proofs.YtibcpdmeigdgpaaGreatDoor
