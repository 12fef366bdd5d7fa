/- The reference's operators: that its functions return. -/
import Derived.Test.YtlgeepjlnjlgdaaRd3
import Derived.Test.YtlgeepjlnjlgdaaLex1
import Derived.WalkSpells
namespace Go.Proofs.Ytlgeepjlnjlgdaa
open Go.RowKit

theorem Try.info_str : (Try.prog.info? 9).map (fun i => (i.zero, i.size, i.bytes)) = some (some (.string ⟨#[]⟩), 1, 16) := by kernel_rfl
theorem elStr : El Try.prog 42 9 (.string ⟨#[]⟩) 1 16 := by
  obtain ⟨i0, hi, hz0, hz1, hz2⟩ := info_parts Try.info_str
  exact ⟨Try.underlying42, ⟨i0, hi, hz0, hz1, hz2⟩, rfl, by omega⟩
/-- What the loop of 'words' has gathered. -/
structure WordsRel (B : Nat) (W : World) (s : ByteArray) (o fv iv : Value) (wr : World) (f i n : Nat) (ts : List ByteArray) : Prop where
  hf : fv = .int .i64 (f : Int)
  hi : iv = .int .i64 (i : Int)
  own : wr.ownsRow B 9 1 o n (ts.map Value.string)
  lo : f ≤ i
  up : i ≤ s.size + 1
  few : n ≤ i
  below : Below B W wr
set_option maxRecDepth 100000 in
set_option maxHeartbeats 2000000 in
theorem words_any (s : ByteArray) (w : World) (hs : s.size ≤ 5000) : Calls Try.prog 93 #[.string s] w fun e w' =>
    (∃ (v : Value) (n : Nat) (ts : List ByteArray), e = .returned v ∧ w'.ownsRow w.heap.size 9 1 v n (ts.map Value.string) ∧ n ≤ s.size + 1) ∧ Below w.heap.size w w' := by
  have hb : ∀ (i : Nat) (h : i < s.size), (s[i]'h).toNat = bn s i := bn_eq s
  go_enter Try.func93, Try.ntmps93
  go_wp2
  go_loopw [3, 4, 5] (fun o fv iv wr => ∃ f i n ts, WordsRel w.heap.size w s o fv iv wr f i n ts) (fun _ _ iv _ => s.size + 1 - (intOf iv).toNat)
  case atStart =>
    exact ⟨0, 0, 0, [], rfl, rfl, ownsRow_empty _ _ _ _ (heap_alloc_new _ _), by omega, by omega, by omega, (Below.refl _ _).alloc (Nat.le_refl _) _⟩
  case round =>
    obtain ⟨f, i, n, ts, hr⟩ := hrel
    obtain rfl := hr.hf
    obtain rfl := hr.hi
    have R := Lib.hid hr
    have hlo := hr.lo
    have hup := hr.up
    have hfew := hr.few
    have hsz := hr.below.size
    clear hr
    by_cases hle : i ≤ s.size
    · have hle' : (i : Int) ≤ (s.size : Int) := by omega
      have step : (∀ (v1 : Value) (w1 : World), w1.ownsRow w.heap.size 9 1 v1 (n + 1) (ts.map Value.string ++ [.string (s.extract f i)]) → Below w.heap.size (wr.alloc (Obj.cells #[.string (s.extract f i)] 9)) w1 →
          WordsRel w.heap.size w s v1 (.int .i64 ((i : Int) + 1)) (.int .i64 ((i : Int) + 1)) w1 (i + 1) (i + 1) (n + 1) (ts ++ [s.extract f i])) := fun v1 w1 h1 h2 =>
        ⟨by go_num, by go_num, by simpa using h1, Nat.le_refl _, by omega, by omega, (R.out.below.alloc hsz _).trans h2⟩
      have ST := Lib.hid step
      clear step
      by_cases he : i = s.size
      · obtain rfl : i = s.size := he
        go_wp2_with (at_builtin; go_must (refine wpList_push _ rfl _ _ _ rfl elStr w.heap.size _ _ _ rfl (R.out.own.alloc _) _ _ (.string (s.extract f s.size)) rfl (by simp [go_sem]) rfl (by omega) (by unfold maxLen; omega) (by simp <;> omega) ?_); intro v1 w1 hown1 hb1)
        have R1 := ST.out _ _ hown1 hb1
        clear hown1 hb1
        go_roundw
        case rel => exact ⟨_, _, _, _, R1⟩
        case measure => simp [intOf] <;> omega
      · have he' : ((i : Int) == (s.size : Int)) = false := by simp; omega
        have hlt : (i : Int) < (s.size : Int) := by omega
        cases h32 : ((bn s i : Int) == 32) with
        | true =>
          go_wp2_with (at_builtin; go_must (refine wpList_push _ rfl _ _ _ rfl elStr w.heap.size _ _ _ rfl (R.out.own.alloc _) _ _ (.string (s.extract f i)) rfl (by simp [go_sem]) rfl (by omega) (by unfold maxLen; omega) (by simp <;> omega) ?_); intro v1 w1 hown1 hb1)
          have R1 := ST.out _ _ hown1 hb1
          clear hown1 hb1
          go_roundw
          case rel => exact ⟨_, _, _, _, R1⟩
          case measure => simp [intOf] <;> omega
        | false =>
          go_wp2
          go_roundw
          case rel => exact ⟨f, i + 1, n, ts, rfl, by go_num, R.out.own, by omega, by omega, by omega, R.out.below⟩
          case measure => simp [intOf] <;> omega
    · go_wp2
      go_ret
      exact ⟨⟨_, n, ts, rfl, R.out.own, by omega⟩, R.out.below⟩
set_option maxRecDepth 100000 in
set_option maxHeartbeats 2000000 in
theorem in_any (nm s : ByteArray) (w : World) (hs : s.size ≤ 5000) : Calls Try.prog 84 #[.string nm, .string s] w fun e w' => (∃ b, e = .returned (.bool b)) ∧ Below w.heap.size w w' := by
  go_enter Try.func84, Try.ntmps84
  go_wp2_with fail
  refine (words_any s _ hs).mono ?_
  rintro e w1 ⟨⟨v, n, ts, rfl, hown, hn⟩, h1⟩
  have hl : ts.length = n := by have := own_len hown; simpa using this
  obtain ⟨A, c, rfl, hc, hA, _, hx⟩ := own_open hown
  clear hown
  go_wp2_with fail
  go_loopw [6] (fun iv wr => ∃ i : Nat, iv = .int .i64 (i : Int) ∧ i ≤ n ∧ w1 = wr) (fun iv _ => n - (intOf iv).toNat)
  case atStart => exact ⟨0, rfl, by omega, rfl⟩
  case round =>
    obtain ⟨i, rfl, hi, rfl⟩ := hrel
    by_cases hlt : i < n
    · have hlt' : (i : Int) < (n : Int) := by omega
      obtain ⟨g, cur, rfl, _, hg, hcur⟩ := hx (by omega)
      have hcell : w1.cell? ⟨g, i, none⟩ = some (.string (ts[i]'(by omega))) := by
        rw [cell_of_row w1 g i _ _ _ hg, hcur i (by omega)]
        simp [List.getElem?_eq_getElem (show i < ts.length by omega)]
      clear hcur hx hg
      go_wp2
      · go_ret
        exact ⟨⟨_, rfl⟩, h1⟩
      · go_roundw
        case rel => exact ⟨i + 1, by go_num, by omega, by trivial⟩
        case measure => simp [intOf] <;> omega
    · go_wp2
      go_ret
      exact ⟨⟨_, rfl⟩, h1⟩
set_option maxRecDepth 100000 in
set_option maxHeartbeats 2000000 in
theorem infix_any (nm : ByteArray) (w : World) : Calls Try.prog 70 #[.string nm] w fun e w' =>
    (∃ p l r b, e = .returned (.tuple #[.int .i64 p, .int .i64 l, .int .i64 r, .bool b])) ∧ Below w.heap.size w w' := by
  go_enter Try.func70, Try.ntmps70
  go_wp2_with fail
  refine (in_any nm _ _ (by decide)).mono ?_
  rintro e w1 ⟨⟨b1, rfl⟩, h1⟩
  have B1 := h1
  clear h1
  cases b1 with
  | true =>
    skip
    go_wp2_with fail
    refine bodyPost_ret (v := .tuple #[.int .i64 1200, .int .i64 1199, .int .i64 1199, .bool true]) (by simp [results, go_sem]) rfl ?_
    exact ⟨⟨1200, 1199, 1199, true, rfl⟩, B1⟩
  | false =>
    go_wp2_with fail
    refine (in_any nm _ _ (by decide)).mono ?_
    rintro e w2 ⟨⟨b2, rfl⟩, h2⟩
    have B2 := B1.trans (h2.mono B1.size)
    clear h2
    cases b2 with
    | true =>
      clear B1
      go_wp2_with fail
      refine bodyPost_ret (v := .tuple #[.int .i64 1100, .int .i64 1099, .int .i64 1100, .bool true]) (by simp [results, go_sem]) rfl ?_
      exact ⟨⟨1100, 1099, 1100, true, rfl⟩, B2⟩
    | false =>
      go_wp2_with fail
      refine (in_any nm _ _ (by decide)).mono ?_
      rintro e w3 ⟨⟨b3, rfl⟩, h3⟩
      have B3 := B2.trans (h3.mono B2.size)
      clear h3
      cases b3 with
      | true =>
        clear B1 B2
        go_wp2_with fail
        refine bodyPost_ret (v := .tuple #[.int .i64 1050, .int .i64 1049, .int .i64 1050, .bool true]) (by simp [results, go_sem]) rfl ?_
        exact ⟨⟨1050, 1049, 1050, true, rfl⟩, B3⟩
      | false =>
        go_wp2_with fail
        refine (in_any nm _ _ (by decide)).mono ?_
        rintro e w4 ⟨⟨b4, rfl⟩, h4⟩
        have B4 := B3.trans (h4.mono B3.size)
        clear h4
        cases b4 with
        | true =>
          clear B1 B2 B3
          go_wp2_with fail
          refine bodyPost_ret (v := .tuple #[.int .i64 1000, .int .i64 999, .int .i64 1000, .bool true]) (by simp [results, go_sem]) rfl ?_
          exact ⟨⟨1000, 999, 1000, true, rfl⟩, B4⟩
        | false =>
          go_wp2_with fail
          refine (in_any nm _ _ (by decide)).mono ?_
          rintro e w5 ⟨⟨b5, rfl⟩, h5⟩
          have B5 := B4.trans (h5.mono B4.size)
          clear h5
          cases b5 with
          | true =>
            clear B1 B2 B3 B4
            go_wp2_with fail
            refine bodyPost_ret (v := .tuple #[.int .i64 760, .int .i64 759, .int .i64 759, .bool true]) (by simp [results, go_sem]) rfl ?_
            exact ⟨⟨760, 759, 759, true, rfl⟩, B5⟩
          | false =>
            go_wp2_with fail
            refine (in_any nm _ _ (by decide)).mono ?_
            rintro e w6 ⟨⟨b6, rfl⟩, h6⟩
            have B6 := B5.trans (h6.mono B5.size)
            clear h6
            cases b6 with
            | true =>
              clear B1 B2 B3 B4 B5
              go_wp2_with fail
              refine bodyPost_ret (v := .tuple #[.int .i64 700, .int .i64 699, .int .i64 699, .bool true]) (by simp [results, go_sem]) rfl ?_
              exact ⟨⟨700, 699, 699, true, rfl⟩, B6⟩
            | false =>
              go_wp2_with fail
              refine (in_any nm _ _ (by decide)).mono ?_
              rintro e w7 ⟨⟨b7, rfl⟩, h7⟩
              have B7 := B6.trans (h7.mono B6.size)
              clear h7
              cases b7 with
              | true =>
                clear B1 B2 B3 B4 B5 B6
                go_wp2_with fail
                refine bodyPost_ret (v := .tuple #[.int .i64 550, .int .i64 550, .int .i64 549, .bool true]) (by simp [results, go_sem]) rfl ?_
                exact ⟨⟨550, 550, 549, true, rfl⟩, B7⟩
              | false =>
                go_wp2_with fail
                refine (in_any nm _ _ (by decide)).mono ?_
                rintro e w8 ⟨⟨b8, rfl⟩, h8⟩
                have B8 := B7.trans (h8.mono B7.size)
                clear h8
                cases b8 with
                | true =>
                  clear B1 B2 B3 B4 B5 B6 B7
                  go_wp2_with fail
                  refine bodyPost_ret (v := .tuple #[.int .i64 450, .int .i64 449, .int .i64 449, .bool true]) (by simp [results, go_sem]) rfl ?_
                  exact ⟨⟨450, 449, 449, true, rfl⟩, B8⟩
                | false =>
                  go_wp2_with fail
                  refine (in_any nm _ _ (by decide)).mono ?_
                  rintro e w9 ⟨⟨b9, rfl⟩, h9⟩
                  have B9 := B8.trans (h9.mono B8.size)
                  clear h9
                  cases b9 with
                  | true =>
                    clear B1 B2 B3 B4 B5 B6 B7 B8
                    go_wp2_with fail
                    refine bodyPost_ret (v := .tuple #[.int .i64 500, .int .i64 500, .int .i64 499, .bool true]) (by simp [results, go_sem]) rfl ?_
                    exact ⟨⟨500, 500, 499, true, rfl⟩, B9⟩
                  | false =>
                    go_wp2_with fail
                    refine (in_any nm _ _ (by decide)).mono ?_
                    rintro e w10 ⟨⟨b10, rfl⟩, h10⟩
                    have B10 := B9.trans (h10.mono B9.size)
                    clear h10
                    cases b10 with
                    | true =>
                      clear B1 B2 B3 B4 B5 B6 B7 B8 B9
                      go_wp2_with fail
                      refine bodyPost_ret (v := .tuple #[.int .i64 400, .int .i64 400, .int .i64 399, .bool true]) (by simp [results, go_sem]) rfl ?_
                      exact ⟨⟨400, 400, 399, true, rfl⟩, B10⟩
                    | false =>
                      go_wp2_with fail
                      refine (in_any nm _ _ (by decide)).mono ?_
                      rintro e w11 ⟨⟨b11, rfl⟩, h11⟩
                      have B11 := B10.trans (h11.mono B10.size)
                      clear h11
                      cases b11 with
                      | true =>
                        clear B1 B2 B3 B4 B5 B6 B7 B8 B9 B10
                        go_wp2_with fail
                        refine bodyPost_ret (v := .tuple #[.int .i64 200, .int .i64 199, .int .i64 200, .bool true]) (by simp [results, go_sem]) rfl ?_
                        exact ⟨⟨200, 199, 200, true, rfl⟩, B11⟩
                      | false =>
                        go_wp2_with fail
                        refine bodyPost_ret (v := .tuple #[.int .i64 0, .int .i64 0, .int .i64 0, .bool false]) (by simp [results, go_sem]) rfl ?_
                        exact ⟨⟨0, 0, 0, false, rfl⟩, B11⟩
set_option maxRecDepth 100000 in
set_option maxHeartbeats 2000000 in
theorem prefix_any (nm : ByteArray) (w : World) : Calls Try.prog 91 #[.string nm] w fun e w' =>
    (∃ p l b, e = .returned (.tuple #[.int .i64 p, .int .i64 l, .bool b])) ∧ Below w.heap.size w w' := by
  go_enter Try.func91, Try.ntmps91
  go_wp2_with fail
  refine (in_any nm _ _ (by decide)).mono ?_
  rintro e w1 ⟨⟨b1, rfl⟩, h1⟩
  have B1 := h1
  clear h1
  cases b1 with
  | true =>
    skip
    go_wp2_with fail
    refine bodyPost_ret (v := .tuple #[.int .i64 1200, .int .i64 1199, .bool true]) (by simp [results, go_sem]) rfl ?_
    exact ⟨⟨1200, 1199, true, rfl⟩, B1⟩
  | false =>
    go_wp2_with fail
    refine (in_any nm _ _ (by decide)).mono ?_
    rintro e w2 ⟨⟨b2, rfl⟩, h2⟩
    have B2 := B1.trans (h2.mono B1.size)
    clear h2
    cases b2 with
    | true =>
      clear B1
      go_wp2_with fail
      refine bodyPost_ret (v := .tuple #[.int .i64 900, .int .i64 900, .bool true]) (by simp [results, go_sem]) rfl ?_
      exact ⟨⟨900, 900, true, rfl⟩, B2⟩
    | false =>
      go_wp2_with fail
      refine (in_any nm _ _ (by decide)).mono ?_
      rintro e w3 ⟨⟨b3, rfl⟩, h3⟩
      have B3 := B2.trans (h3.mono B2.size)
      clear h3
      cases b3 with
      | true =>
        clear B1 B2
        go_wp2_with fail
        refine bodyPost_ret (v := .tuple #[.int .i64 200, .int .i64 200, .bool true]) (by simp [results, go_sem]) rfl ?_
        exact ⟨⟨200, 200, true, rfl⟩, B3⟩
      | false =>
        go_wp2_with fail
        refine bodyPost_ret (v := .tuple #[.int .i64 0, .int .i64 0, .bool false]) (by simp [results, go_sem]) rfl ?_
        exact ⟨⟨0, 0, false, rfl⟩, B3⟩
set_option maxRecDepth 100000 in
set_option maxHeartbeats 2000000 in
theorem ends_any {c : Rdc} {i : Nat} {er : Int} (w : World) (h : Rd w c i er) : Calls Try.prog 92 #[.pointer (some ⟨c.R, 0, none⟩)] w fun e w' =>
    (∃ b, e = .returned (.bool b)) ∧ Below w.heap.size w w' := by
  go_enter Try.func92, Try.ntmps92
  go_wp2_with fail
  refine (next_any _ h).mono ?_
  rintro e w1 ⟨rfl, h1⟩
  generalize nx c i = x
  go_wp2_with (first | (go_at_call 70; refine (infix_any _ _).mono ?_; rintro e w2 ⟨⟨p, l, r, b, rfl⟩, h2⟩; have y1 := (box4t ((h2.block w1.heap.size (by simp)).trans (heap_alloc_new w1 (Obj.cells #[.int .i64 x.k, .string x.t, .int .i64 (x.a : Int), .int .i64 (x.b : Int)] 72)))).2.1) | (go_at_call 91; refine (prefix_any _ _).mono ?_; rintro e w3 ⟨⟨p, l, b, rfl⟩, h3⟩))
  all_goals
    go_ret
    first
    | exact ⟨⟨_, rfl⟩, h1.alloc h1.size _⟩
    | exact ⟨⟨_, rfl⟩, ((h1.alloc h1.size _).trans (h2.mono (by have := h1.size; simp; omega))).trans (h3.mono (by have := h1.size; have := h2.size; simp at this; omega))⟩
end Go.Proofs.Ytlgeepjlnjlgdaa
