/- The program's 'plain': does a name stand without quotes? -/
import Derived.Test.YtgaganmcfoeejaaLp5
import Derived.Test.YtgaganmcfoeejaaLq0
namespace Go.Proofs.Ytgaganmcfoeejaa
open Go.RowKit

theorem all_run {s : ByteArray} {r : Nat} (h : r ≤ s.size) : ((s.extract 0 r).toList == s.toList) = decide (r = s.size) := by
  by_cases hr : r = s.size
  · subst hr
    rw [extract_all]
    simp
  · rw [decide_eq_false hr, beq_eq_false_iff_ne]
    intro he
    have h1 : (s.extract 0 r).toList.length = s.toList.length := by rw [he]
    simp only [ByteArray.toList_eq] at h1
    rw [list_len, list_len, ByteArray.size_extract] at h1
    omega
theorem dot_text {s : ByteArray} : (s.toList == [46]) = (decide (s.size = 1) && (bn s 0 : Int) == 46) := by
  rw [ByteArray.toList_eq]
  obtain ⟨⟨l⟩⟩ := s
  have e : (ByteArray.mk ⟨l⟩).size = l.length := rfl
  have e2 : bn ⟨⟨l⟩⟩ 0 = (l.getD 0 0).toNat := rfl
  rw [e, e2]
  match l with
  | [] => rfl
  | [a] =>
    have h : (((a.toNat : Nat) : Int) == 46) = decide (a = 46) := byte_eq a 46
    show ([a] == [46]) = (true && (((a.toNat : Nat) : Int) == 46))
    rw [h]
    simp
    rfl
  | a :: b :: l =>
    rw [beq_eq_false_iff_ne.2 (by simp), decide_eq_false (by simp)]
    rfl
/-- 'while' of a scanner that has just been made. -/
theorem while_box {K : Int} (cs : List Int) (hcs : ∀ n : Nat, n < 256 → oneOf cs (ofN n) = kindB K n) (hm : cs.length ≤ 10) (s : ByteArray) (hs : s.size ≤ 4096) (w : World) :
    Calls Try.prog 33 #[.pointer (some ⟨w.heap.size, 0, none⟩), .slice (some ⟨w.heap.size + 1, 0, none⟩) cs.length cs.length]
      ((w.alloc (.cells #[.string s, .int .i64 0, .slice none 0 0] 40)).alloc (.cells (cs.map (Value.int .i64)).toArray 56)) fun e w' =>
      e = .returned (.string (s.extract 0 (runN K s 0))) ∧ Below w.heap.size w w' := by
  have hz : (w.alloc (.cells #[.string s, .int .i64 0, .slice none 0 0] 40)).heap.size = w.heap.size + 1 := by simp
  have hsc : Sc ((w.alloc (.cells #[.string s, .int .i64 0, .slice none 0 0] 40)).alloc (.cells (cs.map (Value.int .i64)).toArray 56)) w.heap.size s 0 (.slice none 0 0) :=
    (Below.heap_alloc _ _ _ (by omega)).trans (heap_alloc_new _ _)
  have hcell := cls_cells (w := w.alloc (.cells #[.string s, .int .i64 0, .slice none 0 0] 40)) (t := 56) cs
  rw [hz] at hcell
  refine (while_any K cs hcs s (by omega) hsc (Nat.zero_le _) (b := w.heap.size + 1) (by omega) (by simp) hm hcell).mono ?_
  rintro e w1 ⟨rfl, _, hon⟩
  exact ⟨rfl, (((Below.refl _ _).alloc (Nat.le_refl _) _).alloc (by simp) _).trans hon.low⟩
set_option maxHeartbeats 8000000 in
set_option maxRecDepth 100000 in
theorem plain_any (s : ByteArray) (hs : s.size ≤ 4096) (w : World) : Calls Try.prog 25 #[.string s] w fun e w' => e = .returned (.bool (plainN s)) ∧ Below w.heap.size w w' := by
  have hb : ∀ (i : Nat) (h : i < s.size), (s[i]'h).toNat = bn s i := bn_eq s
  by_cases h0 : s.size = 0
  · obtain rfl : s = ⟨#[]⟩ := bytes_same (List.eq_nil_of_length_eq_zero (by rw [list_len]; exact h0))
    go_enter Try.func25, Try.ntmps25
    go_wp2_with fail
    go_ret
    exact ⟨rfl, Below.refl _ _⟩
  have hpos : 0 < s.size := by omega
  have hne : (s.toList == []) = false := by
    rw [beq_eq_false_iff_ne, ByteArray.toList_eq]
    intro h
    exact h0 (by rw [← list_len, h]; rfl)
  have CO := Lib.hid (of_any (bn s 0) (bn_lt s 0) w)
  clear h0
  cases hsm : smallB (bn s 0) with
  | true =>
    have hc : ofN (bn s 0) = 1 := by unfold ofN; rw [hsm]; rfl
    rw [hc] at CO
    have HP := Lib.hid (show plainN s = decide (runN 1 s 0 = s.size) by unfold plainN; rw [decide_eq_true hpos, hsm]; rfl)
    clear hc hsm
    go_enter Try.func25, Try.ntmps25
    go_wp2_with fail
    refine CO.out.mono ?_
    rintro e w1 ⟨rfl, rfl⟩
    clear CO
    go_wp2_with fail
    refine (while_box (K := 1) [1, 2, 3] (by decide +kernel) (by decide) s hs _).mono ?_
    rintro e w2 ⟨rfl, hb2⟩
    have B2 := Lib.hid hb2
    clear hb2
    go_wp2_with fail
    go_ret
    exact ⟨by rw [HP.out, ← all_run (runN_le (Nat.zero_le _))]; rfl, B2.out⟩
  | false =>
    cases hsi : signB (bn s 0) with
    | true =>
      have hc : ofN (bn s 0) = 4 := by
        obtain ⟨_, f2, f3, _⟩ := sign_facts hsi
        unfold ofN; rw [hsm, f2, f3, hsi]; rfl
      rw [hc] at CO
      have HP := Lib.hid (show plainN s = (!(s.toList == [46]) && !(twoB s 0 47 42) && decide (runN 3 s 0 = s.size)) by unfold plainN; rw [decide_eq_true hpos, hsm, hsi, dot_text]; rfl)
      have CP := Lib.hid (show ∀ W, Calls Try.prog 31 #[.string s, .string ⟨#[47, 42]⟩] W fun e w' => e = .returned (.bool (twoB s 0 47 42)) ∧ w' = W from fun W => by
        have e := has_two s 0 47 42
        rw [extract_all] at e
        have e2 : twoB s 0 47 42 = twoB s 0 (47 : UInt8).toNat (42 : UInt8).toNat := rfl
        rw [e2, ← e]
        exact Try.strings_HasPrefix s ⟨#[47, 42]⟩ W)
      clear hc hsm hsi
      cases hdot : (s.toList == [46]) with
      | true =>
        have hdot' : (s.toList != [46]) = false := by simp [bne, hdot]
        rw [hdot] at HP
        go_enter Try.func25, Try.ntmps25
        go_wp2_with fail
        refine CO.out.mono ?_
        rintro e w1 ⟨rfl, rfl⟩
        clear CO
        go_wp2_with fail
        go_ret
        exact ⟨by rw [HP.out]; rfl, (Below.refl _ _).alloc (Nat.le_refl _) _⟩
      | false =>
        have hdot' : (s.toList != [46]) = true := by simp [bne, hdot]
        rw [hdot] at HP
        go_enter Try.func25, Try.ntmps25
        go_wp2_with fail
        refine CO.out.mono ?_
        rintro e w1 ⟨rfl, rfl⟩
        clear CO
        go_wp2_with fail
        refine (CP.out _).mono ?_
        rintro e w2 ⟨rfl, rfl⟩
        cases h2 : twoB s 0 47 42 with
        | true =>
          rw [h2] at HP
          clear CP
          go_wp2_with fail
          go_ret
          exact ⟨by rw [HP.out]; rfl, (Below.refl _ _).alloc (Nat.le_refl _) _⟩
        | false =>
          rw [h2] at HP
          clear CP
          go_wp2_with fail
          refine (while_box (K := 3) [4] (by decide +kernel) (by decide) s hs _).mono ?_
          rintro e w2 ⟨rfl, hb2⟩
          have B2 := Lib.hid hb2
          clear hb2
          go_wp2_with fail
          go_ret
          exact ⟨by rw [HP.out, ← all_run (runN_le (Nat.zero_le _))]; rfl, B2.out⟩
    | false =>
      cases hso : ((bn s 0 : Int) == 33 || (bn s 0 : Int) == 59) with
      | true =>
        have hc : ofN (bn s 0) = 6 := by
          have f : ∀ c : Int, (c = 33 ∨ c = 59) → ofN c = 6 := by
            rintro c (rfl | rfl) <;> decide
          exact f _ (by simpa using hso)
        rw [hc] at CO
        have HP := Lib.hid (show plainN s = decide (s.size = 1) by unfold plainN; rw [decide_eq_true hpos, hsm, hsi, hso]; rfl)
        clear hc hsm hsi hso
        go_enter Try.func25, Try.ntmps25
        go_wp2_with fail
        refine CO.out.mono ?_
        rintro e w1 ⟨rfl, rfl⟩
        clear CO
        go_wp2_with fail
        go_ret
        refine ⟨?_, Below.refl _ _⟩
        rw [HP.out]
        refine congrArg (fun b => Ending.returned (Value.bool b)) ?_
        rw [Bool.eq_iff_iff, beq_iff_eq, decide_eq_true_eq]
        omega
      | false =>
        have HP := Lib.hid (show plainN s = false by unfold plainN; rw [decide_eq_true hpos, hsm, hsi, hso]; rfl)
        obtain ⟨c, hc⟩ : ∃ c, ofN (bn s 0) = c := ⟨_, rfl⟩
        have hn : (c == 1) = false ∧ (c == 4) = false ∧ (c == 6) = false := by
          subst hc
          unfold ofN
          rw [hsm, hsi, hso]
          simp only [Bool.false_eq_true, if_false]
          repeat' split
          all_goals exact ⟨by decide, by decide, by decide⟩
        obtain ⟨n1, n4, n6⟩ := hn
        rw [hc] at CO
        clear hc hsm hsi hso
        go_enter Try.func25, Try.ntmps25
        go_wp2_with fail
        refine CO.out.mono ?_
        rintro e w1 ⟨rfl, rfl⟩
        clear CO
        go_wp2_with fail
        go_ret
        exact ⟨by rw [HP.out]; rfl, Below.refl _ _⟩
end Go.Proofs.Ytgaganmcfoeejaa
