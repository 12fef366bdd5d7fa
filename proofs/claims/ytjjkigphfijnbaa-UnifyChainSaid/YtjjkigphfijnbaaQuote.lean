/- The walk through coneyref03.Quote: it hands back some text. -/
import Derived.Test.YtjjkigphfijnbaaTk
import Derived.Test.YtjjkigphfijnbaaLex4
import Derived.Deep.AppendLies
namespace Go.Proofs.Ytjjkigphfijnbaa
open Go.RowKit

structure QuR (w : World) (s : ByteArray) (b iv : Value) (wr : World) (k n : Nat) (zs : List Int) : Prop where
  hi : iv = .int .i64 (k : Int)
  own : wr.ownsRow w.heap.size 5 1 b n (zs.map (Value.int .u8))
  up : k ≤ s.size
  few : n ≤ 2 * k + 1
  low : Below w.heap.size w wr
/-- Some text. -/
def SomeS (w : World) (e : Ending) (w' : World) : Prop := (∃ q : ByteArray, e = .returned (.string q)) ∧ Below w.heap.size w w'
theorem QuR.step1 {w : World} {s : ByteArray} {b iv : Value} {wr w1 : World} {k n : Nat} {zs : List Int} {b' iv' : Value} {x : Int} (h : QuR w s b iv wr k n zs)
    (hi' : iv' = .int .i64 ((k + 1 : Nat) : Int)) (hown : w1.ownsRow w.heap.size 5 1 b' (n + 1) (zs.map (Value.int .u8) ++ [.int .u8 x])) (hk : k < s.size) (hb : Below w.heap.size wr w1) : QuR w s b' iv' w1 (k + 1) (n + 1) (zs ++ [x]) :=
  ⟨hi', by simpa using hown, hk, by have := h.few; omega, h.low.trans hb⟩
theorem QuR.step2 {w : World} {s : ByteArray} {b iv : Value} {wr w1 : World} {k n : Nat} {zs : List Int} {b' iv' : Value} {x y : Int} (h : QuR w s b iv wr k n zs)
    (hi' : iv' = .int .i64 ((k + 1 : Nat) : Int)) (hown : w1.ownsRow w.heap.size 5 1 b' (n + 2) (zs.map (Value.int .u8) ++ [.int .u8 x, .int .u8 y])) (hk : k < s.size) (hb : Below w.heap.size wr w1) : QuR w s b' iv' w1 (k + 1) (n + 2) (zs ++ [x, y]) :=
  ⟨hi', by simpa using hown, hk, by have := h.few; omega, h.low.trans hb⟩
set_option maxRecDepth 100000 in
set_option maxHeartbeats 8000000 in
theorem quote_any (s : ByteArray) (hs : s.size ≤ 4096) (w : World) : Calls Try.prog 16 #[.string s] w fun e w' => SomeS w e w' := by
  have hb : ∀ (i : Nat) (h : i < s.size), (s[i]'h).toNat = bn s i := bn_eq s
  obtain ⟨item, ii1, ii2, ii3, ii4⟩ := elU8.hi
  have hs' : (s.size : Int) ≤ 4096 := by omega
  go_enter Try.func16, Try.ntmps16
  go_wp2_with fail
  refine (tokens_any s _).mono ?_
  rintro e w1 ⟨⟨v, p, er, rfl, hok⟩, h1⟩
  have B1 := Lib.hid h1
  have hw1 := h1.size
  have HOK := Lib.hid hok
  clear hok h1
  by_cases hall : er = 0 ∧ ∃ A c, v = .slice A 1 c
  · obtain ⟨rfl, A, c, rfl⟩ := hall
    obtain ⟨n, l, hown, hln, _, _, hx⟩ := HOK.out rfl
    obtain ⟨A', c', e', _, _, _, hcl⟩ := own_open hown
    injection e' with e1 e2 e3
    subst e1; subst e3
    subst e2
    obtain ⟨g, cur, rfl, _, hg, hcur⟩ := hcl (by omega)
    obtain ⟨x, rfl⟩ : ∃ x, l = [x] := by
      cases l with
      | nil => simp at hln
      | cons x l => cases l with
        | nil => exact ⟨x, rfl⟩
        | cons y l => simp at hln
    obtain ⟨x1, x2, x3, x4, x5⟩ := hx x List.mem_cons_self
    have hgl := heap_lt hg
    have d0 := (cell_of_row w1 g 0 _ _ _ hg).trans ((hcur 0 (by omega)).trans (show _ = some (Value.int .i64 x.k) from rfl))
    have d1 := (cell_of_row w1 g 1 _ _ _ hg).trans ((hcur 1 (by omega)).trans (show _ = some (Value.string x.t) from rfl))
    have d3 := (cell_of_row w1 g 3 _ _ _ hg).trans ((hcur 3 (by omega)).trans (show _ = some (Value.int .i64 (x.b : Int)) from rfl))
    have hpos : 0 < s.size := by omega
    have hpos' : (0 : Int) < (s.size : Int) := by omega
    clear hown hln hx hcl hcur hg
    by_cases hall : x.k = 1 ∧ x.t.toList = s.toList ∧ x.b = s.size ∧ (bn s 0 : Int) ≠ 39
    · obtain ⟨q1, q2, q3, q4⟩ := hall
      have q1' : (x.k == 1) = true := by simpa using q1
      have q2' : (x.t.toList == s.toList) = true := by simpa using q2
      have q3' : ((x.b : Int) == (s.size : Int)) = true := by rw [q3]; simp
      have q4' : ((bn s 0 : Int) != 39) = true := by simpa using q4
      clear q1 q2 q3 q4
      go_wp2_with fail
      go_ret
      exact ⟨⟨s, rfl⟩, B1.out⟩
    · clear hpos
      cases q1 : (x.k == 1) with
      | false =>
        clear hall
        go_wp2_with fail
        clear q1
        go_loopw [2, 6, 7, 8] (fun _ b iv _ wr => ∃ k n zs, QuR w s b iv wr k n zs) (fun _ _ iv _ _ => s.size - (intOf iv).toNat)
        case atStart => exact ⟨0, 1, [39], by go_num, ⟨rfl, .inr ⟨_, 1, _, rfl, hw1, heap_alloc_new _ _, Nat.le_refl _, by simp [maxLen], rfl, rfl⟩⟩, Nat.zero_le _, by omega, B1.out.alloc hw1 _⟩
        case round =>
          obtain ⟨k, n, zs, hr⟩ := hrel
          obtain rfl := hr.hi
          have R := Lib.hid hr
          have hk := hr.up
          have hfew := hr.few
          have hsz := hr.low.size
          clear hr
          by_cases h7 : k < s.size
          · have h7' : (k : Int) < (s.size : Int) := by omega
            cases h10 : ((bn s k : Int) == 10) with
            | true =>
              go_wp2_with (at_builtin; go_must (refine wpList_append_lies _ rfl _ _ _ rfl w.heap.size 5 item (.int .u8 0) 1 1 Try.underlying39 ii1 ii2 ii3 ii4 rfl (by omega) _ n _ rfl (R.out.own.alloc _) ⟨wr.heap.size, 0, none⟩ 2 2 [.int .u8 92, .int .u8 110] rfl rfl (World.news_of_block (heap_alloc_new _ _)) ?_ (by omega) (by unfold maxLen; omega) (by omega) (by simp; omega) _ rfl ?_))
              · intro u hu
                simp only [List.mem_cons, List.not_mem_nil, or_false] at hu
                rcases hu with rfl | rfl <;> rfl
              intro g1 cap1 w9 hown1 hg1 hat1 _
              have R1 := Lib.hid (R.out.step2 (iv' := .int .i64 ((k : Int) + 1)) (by go_num) hown1 h7 (((Below.refl _ _).alloc (by omega) _).grown hg1 (by simp; omega) fun q hq => (R.out.own.lt q hq).1))
              clear hown1 hg1 hat1
              go_wp2_with fail
              go_roundw
              case rel => exact ⟨_, _, _, R1.out⟩
              case measure => simp [intOf]; omega
            | false =>
              cases h9 : ((bn s k : Int) == 9) with
              | true =>
                go_wp2_with (at_builtin; go_must (refine wpList_append_lies _ rfl _ _ _ rfl w.heap.size 5 item (.int .u8 0) 1 1 Try.underlying39 ii1 ii2 ii3 ii4 rfl (by omega) _ n _ rfl (R.out.own.alloc _) ⟨wr.heap.size, 0, none⟩ 2 2 [.int .u8 92, .int .u8 116] rfl rfl (World.news_of_block (heap_alloc_new _ _)) ?_ (by omega) (by unfold maxLen; omega) (by omega) (by simp; omega) _ rfl ?_))
                · intro u hu
                  simp only [List.mem_cons, List.not_mem_nil, or_false] at hu
                  rcases hu with rfl | rfl <;> rfl
                intro g1 cap1 w9 hown1 hg1 hat1 _
                have R1 := Lib.hid (R.out.step2 (iv' := .int .i64 ((k : Int) + 1)) (by go_num) hown1 h7 (((Below.refl _ _).alloc (by omega) _).grown hg1 (by simp; omega) fun q hq => (R.out.own.lt q hq).1))
                clear hown1 hg1 hat1
                go_wp2_with fail
                go_roundw
                case rel => exact ⟨_, _, _, R1.out⟩
                case measure => simp [intOf]; omega
              | false =>
                cases h92 : ((bn s k : Int) == 92) with
                | true =>
                  go_wp2_with (at_builtin; go_must (refine wpList_append_lies _ rfl _ _ _ rfl w.heap.size 5 item (.int .u8 0) 1 1 Try.underlying39 ii1 ii2 ii3 ii4 rfl (by omega) _ n _ rfl (R.out.own.alloc _) ⟨wr.heap.size, 0, none⟩ 2 2 [.int .u8 92, .int .u8 (bn s k : Int)] rfl rfl (World.news_of_block (heap_alloc_new _ _)) ?_ (by omega) (by unfold maxLen; omega) (by omega) (by simp; omega) _ rfl ?_))
                  · intro u hu
                    simp only [List.mem_cons, List.not_mem_nil, or_false] at hu
                    rcases hu with rfl | rfl <;> rfl
                  intro g1 cap1 w9 hown1 hg1 hat1 _
                  have R1 := Lib.hid (R.out.step2 (iv' := .int .i64 ((k : Int) + 1)) (by go_num) hown1 h7 (((Below.refl _ _).alloc (by omega) _).grown hg1 (by simp; omega) fun q hq => (R.out.own.lt q hq).1))
                  clear hown1 hg1 hat1
                  go_wp2_with fail
                  go_roundw
                  case rel => exact ⟨_, _, _, R1.out⟩
                  case measure => simp [intOf]; omega
                | false =>
                  cases h39 : ((bn s k : Int) == 39) with
                  | true =>
                    go_wp2_with (at_builtin; go_must (refine wpList_append_lies _ rfl _ _ _ rfl w.heap.size 5 item (.int .u8 0) 1 1 Try.underlying39 ii1 ii2 ii3 ii4 rfl (by omega) _ n _ rfl (R.out.own.alloc _) ⟨wr.heap.size, 0, none⟩ 2 2 [.int .u8 92, .int .u8 (bn s k : Int)] rfl rfl (World.news_of_block (heap_alloc_new _ _)) ?_ (by omega) (by unfold maxLen; omega) (by omega) (by simp; omega) _ rfl ?_))
                    · intro u hu
                      simp only [List.mem_cons, List.not_mem_nil, or_false] at hu
                      rcases hu with rfl | rfl <;> rfl
                    intro g1 cap1 w9 hown1 hg1 hat1 _
                    have R1 := Lib.hid (R.out.step2 (iv' := .int .i64 ((k : Int) + 1)) (by go_num) hown1 h7 (((Below.refl _ _).alloc (by omega) _).grown hg1 (by simp; omega) fun q hq => (R.out.own.lt q hq).1))
                    clear hown1 hg1 hat1
                    go_wp2_with fail
                    go_roundw
                    case rel => exact ⟨_, _, _, R1.out⟩
                    case measure => simp [intOf]; omega
                  | false =>
                    by_cases hlow : (bn s k : Int) < 32
                    · go_wp2_with fail
                      go_ret
                      exact ⟨⟨_, rfl⟩, R.out.low⟩
                    · by_cases hgr : (126 : Int) < (bn s k : Int)
                      · go_wp2_with fail
                        go_ret
                        exact ⟨⟨_, rfl⟩, R.out.low⟩
                      · go_wp2_with (at_builtin; go_must (refine wpList_push _ rfl _ _ _ rfl elU8 w.heap.size _ _ _ rfl (R.out.own.alloc _) _ _ (.int .u8 (bn s k : Int)) rfl (by simp [go_sem]) rfl (by omega) (by unfold maxLen; omega) (by simp; omega) ?_); intro v1 w1 hown1 hb1)
                        have R1 := Lib.hid (R.out.step1 (iv' := .int .i64 ((k : Int) + 1)) (by go_num) hown1 h7 (((Below.refl _ _).alloc (by omega) _).trans hb1))
                        clear hown1 hb1
                        go_wp2_with fail
                        go_roundw
                        case rel => exact ⟨_, _, _, R1.out⟩
                        case measure => simp [intOf]; omega
          · obtain rfl : k = s.size := by omega
            go_wp2_with (at_builtin; go_must (refine wpList_push _ rfl _ _ _ rfl elU8 w.heap.size _ _ _ rfl (R.out.own.alloc _) _ _ (.int .u8 39) rfl (by simp [go_sem]) rfl (by omega) (by unfold maxLen; omega) (by simp; omega) ?_); intro v1 w1 hown1 hb1)
            have hown2 : w1.ownsRow w.heap.size 5 1 v1 (n + 1) ((zs ++ [39]).map (Value.int .u8)) := by simpa using hown1
            obtain ⟨q, _, hconv⟩ := own_string hown2
            have BB := Lib.hid (R.out.low.trans (((Below.refl _ _).alloc (by omega) _).trans hb1))
            clear hown1 hb1 hown2
            go_wp2_with fail
            rw [hconv]
            go_wp2_with fail
            go_ret
            exact ⟨⟨q, rfl⟩, BB.out⟩
      | true =>
        cases q2 : (x.t.toList == s.toList) with
        | false =>
          clear hall
          go_wp2_with fail
          clear q1 q2
          go_loopw [2, 6, 7, 8] (fun _ b iv _ wr => ∃ k n zs, QuR w s b iv wr k n zs) (fun _ _ iv _ _ => s.size - (intOf iv).toNat)
          case atStart => exact ⟨0, 1, [39], by go_num, ⟨rfl, .inr ⟨_, 1, _, rfl, hw1, heap_alloc_new _ _, Nat.le_refl _, by simp [maxLen], rfl, rfl⟩⟩, Nat.zero_le _, by omega, B1.out.alloc hw1 _⟩
          case round =>
            obtain ⟨k, n, zs, hr⟩ := hrel
            obtain rfl := hr.hi
            have R := Lib.hid hr
            have hk := hr.up
            have hfew := hr.few
            have hsz := hr.low.size
            clear hr
            by_cases h7 : k < s.size
            · have h7' : (k : Int) < (s.size : Int) := by omega
              cases h10 : ((bn s k : Int) == 10) with
              | true =>
                go_wp2_with (at_builtin; go_must (refine wpList_append_lies _ rfl _ _ _ rfl w.heap.size 5 item (.int .u8 0) 1 1 Try.underlying39 ii1 ii2 ii3 ii4 rfl (by omega) _ n _ rfl (R.out.own.alloc _) ⟨wr.heap.size, 0, none⟩ 2 2 [.int .u8 92, .int .u8 110] rfl rfl (World.news_of_block (heap_alloc_new _ _)) ?_ (by omega) (by unfold maxLen; omega) (by omega) (by simp; omega) _ rfl ?_))
                · intro u hu
                  simp only [List.mem_cons, List.not_mem_nil, or_false] at hu
                  rcases hu with rfl | rfl <;> rfl
                intro g1 cap1 w9 hown1 hg1 hat1 _
                have R1 := Lib.hid (R.out.step2 (iv' := .int .i64 ((k : Int) + 1)) (by go_num) hown1 h7 (((Below.refl _ _).alloc (by omega) _).grown hg1 (by simp; omega) fun q hq => (R.out.own.lt q hq).1))
                clear hown1 hg1 hat1
                go_wp2_with fail
                go_roundw
                case rel => exact ⟨_, _, _, R1.out⟩
                case measure => simp [intOf]; omega
              | false =>
                cases h9 : ((bn s k : Int) == 9) with
                | true =>
                  go_wp2_with (at_builtin; go_must (refine wpList_append_lies _ rfl _ _ _ rfl w.heap.size 5 item (.int .u8 0) 1 1 Try.underlying39 ii1 ii2 ii3 ii4 rfl (by omega) _ n _ rfl (R.out.own.alloc _) ⟨wr.heap.size, 0, none⟩ 2 2 [.int .u8 92, .int .u8 116] rfl rfl (World.news_of_block (heap_alloc_new _ _)) ?_ (by omega) (by unfold maxLen; omega) (by omega) (by simp; omega) _ rfl ?_))
                  · intro u hu
                    simp only [List.mem_cons, List.not_mem_nil, or_false] at hu
                    rcases hu with rfl | rfl <;> rfl
                  intro g1 cap1 w9 hown1 hg1 hat1 _
                  have R1 := Lib.hid (R.out.step2 (iv' := .int .i64 ((k : Int) + 1)) (by go_num) hown1 h7 (((Below.refl _ _).alloc (by omega) _).grown hg1 (by simp; omega) fun q hq => (R.out.own.lt q hq).1))
                  clear hown1 hg1 hat1
                  go_wp2_with fail
                  go_roundw
                  case rel => exact ⟨_, _, _, R1.out⟩
                  case measure => simp [intOf]; omega
                | false =>
                  cases h92 : ((bn s k : Int) == 92) with
                  | true =>
                    go_wp2_with (at_builtin; go_must (refine wpList_append_lies _ rfl _ _ _ rfl w.heap.size 5 item (.int .u8 0) 1 1 Try.underlying39 ii1 ii2 ii3 ii4 rfl (by omega) _ n _ rfl (R.out.own.alloc _) ⟨wr.heap.size, 0, none⟩ 2 2 [.int .u8 92, .int .u8 (bn s k : Int)] rfl rfl (World.news_of_block (heap_alloc_new _ _)) ?_ (by omega) (by unfold maxLen; omega) (by omega) (by simp; omega) _ rfl ?_))
                    · intro u hu
                      simp only [List.mem_cons, List.not_mem_nil, or_false] at hu
                      rcases hu with rfl | rfl <;> rfl
                    intro g1 cap1 w9 hown1 hg1 hat1 _
                    have R1 := Lib.hid (R.out.step2 (iv' := .int .i64 ((k : Int) + 1)) (by go_num) hown1 h7 (((Below.refl _ _).alloc (by omega) _).grown hg1 (by simp; omega) fun q hq => (R.out.own.lt q hq).1))
                    clear hown1 hg1 hat1
                    go_wp2_with fail
                    go_roundw
                    case rel => exact ⟨_, _, _, R1.out⟩
                    case measure => simp [intOf]; omega
                  | false =>
                    cases h39 : ((bn s k : Int) == 39) with
                    | true =>
                      go_wp2_with (at_builtin; go_must (refine wpList_append_lies _ rfl _ _ _ rfl w.heap.size 5 item (.int .u8 0) 1 1 Try.underlying39 ii1 ii2 ii3 ii4 rfl (by omega) _ n _ rfl (R.out.own.alloc _) ⟨wr.heap.size, 0, none⟩ 2 2 [.int .u8 92, .int .u8 (bn s k : Int)] rfl rfl (World.news_of_block (heap_alloc_new _ _)) ?_ (by omega) (by unfold maxLen; omega) (by omega) (by simp; omega) _ rfl ?_))
                      · intro u hu
                        simp only [List.mem_cons, List.not_mem_nil, or_false] at hu
                        rcases hu with rfl | rfl <;> rfl
                      intro g1 cap1 w9 hown1 hg1 hat1 _
                      have R1 := Lib.hid (R.out.step2 (iv' := .int .i64 ((k : Int) + 1)) (by go_num) hown1 h7 (((Below.refl _ _).alloc (by omega) _).grown hg1 (by simp; omega) fun q hq => (R.out.own.lt q hq).1))
                      clear hown1 hg1 hat1
                      go_wp2_with fail
                      go_roundw
                      case rel => exact ⟨_, _, _, R1.out⟩
                      case measure => simp [intOf]; omega
                    | false =>
                      by_cases hlow : (bn s k : Int) < 32
                      · go_wp2_with fail
                        go_ret
                        exact ⟨⟨_, rfl⟩, R.out.low⟩
                      · by_cases hgr : (126 : Int) < (bn s k : Int)
                        · go_wp2_with fail
                          go_ret
                          exact ⟨⟨_, rfl⟩, R.out.low⟩
                        · go_wp2_with (at_builtin; go_must (refine wpList_push _ rfl _ _ _ rfl elU8 w.heap.size _ _ _ rfl (R.out.own.alloc _) _ _ (.int .u8 (bn s k : Int)) rfl (by simp [go_sem]) rfl (by omega) (by unfold maxLen; omega) (by simp; omega) ?_); intro v1 w1 hown1 hb1)
                          have R1 := Lib.hid (R.out.step1 (iv' := .int .i64 ((k : Int) + 1)) (by go_num) hown1 h7 (((Below.refl _ _).alloc (by omega) _).trans hb1))
                          clear hown1 hb1
                          go_wp2_with fail
                          go_roundw
                          case rel => exact ⟨_, _, _, R1.out⟩
                          case measure => simp [intOf]; omega
            · obtain rfl : k = s.size := by omega
              go_wp2_with (at_builtin; go_must (refine wpList_push _ rfl _ _ _ rfl elU8 w.heap.size _ _ _ rfl (R.out.own.alloc _) _ _ (.int .u8 39) rfl (by simp [go_sem]) rfl (by omega) (by unfold maxLen; omega) (by simp; omega) ?_); intro v1 w1 hown1 hb1)
              have hown2 : w1.ownsRow w.heap.size 5 1 v1 (n + 1) ((zs ++ [39]).map (Value.int .u8)) := by simpa using hown1
              obtain ⟨q, _, hconv⟩ := own_string hown2
              have BB := Lib.hid (R.out.low.trans (((Below.refl _ _).alloc (by omega) _).trans hb1))
              clear hown1 hb1 hown2
              go_wp2_with fail
              rw [hconv]
              go_wp2_with fail
              go_ret
              exact ⟨⟨q, rfl⟩, BB.out⟩
        | true =>
          cases q3 : ((x.b : Int) == (s.size : Int)) with
          | false =>
            clear hall
            go_wp2_with fail
            clear q1 q2 q3
            go_loopw [2, 6, 7, 8] (fun _ b iv _ wr => ∃ k n zs, QuR w s b iv wr k n zs) (fun _ _ iv _ _ => s.size - (intOf iv).toNat)
            case atStart => exact ⟨0, 1, [39], by go_num, ⟨rfl, .inr ⟨_, 1, _, rfl, hw1, heap_alloc_new _ _, Nat.le_refl _, by simp [maxLen], rfl, rfl⟩⟩, Nat.zero_le _, by omega, B1.out.alloc hw1 _⟩
            case round =>
              obtain ⟨k, n, zs, hr⟩ := hrel
              obtain rfl := hr.hi
              have R := Lib.hid hr
              have hk := hr.up
              have hfew := hr.few
              have hsz := hr.low.size
              clear hr
              by_cases h7 : k < s.size
              · have h7' : (k : Int) < (s.size : Int) := by omega
                cases h10 : ((bn s k : Int) == 10) with
                | true =>
                  go_wp2_with (at_builtin; go_must (refine wpList_append_lies _ rfl _ _ _ rfl w.heap.size 5 item (.int .u8 0) 1 1 Try.underlying39 ii1 ii2 ii3 ii4 rfl (by omega) _ n _ rfl (R.out.own.alloc _) ⟨wr.heap.size, 0, none⟩ 2 2 [.int .u8 92, .int .u8 110] rfl rfl (World.news_of_block (heap_alloc_new _ _)) ?_ (by omega) (by unfold maxLen; omega) (by omega) (by simp; omega) _ rfl ?_))
                  · intro u hu
                    simp only [List.mem_cons, List.not_mem_nil, or_false] at hu
                    rcases hu with rfl | rfl <;> rfl
                  intro g1 cap1 w9 hown1 hg1 hat1 _
                  have R1 := Lib.hid (R.out.step2 (iv' := .int .i64 ((k : Int) + 1)) (by go_num) hown1 h7 (((Below.refl _ _).alloc (by omega) _).grown hg1 (by simp; omega) fun q hq => (R.out.own.lt q hq).1))
                  clear hown1 hg1 hat1
                  go_wp2_with fail
                  go_roundw
                  case rel => exact ⟨_, _, _, R1.out⟩
                  case measure => simp [intOf]; omega
                | false =>
                  cases h9 : ((bn s k : Int) == 9) with
                  | true =>
                    go_wp2_with (at_builtin; go_must (refine wpList_append_lies _ rfl _ _ _ rfl w.heap.size 5 item (.int .u8 0) 1 1 Try.underlying39 ii1 ii2 ii3 ii4 rfl (by omega) _ n _ rfl (R.out.own.alloc _) ⟨wr.heap.size, 0, none⟩ 2 2 [.int .u8 92, .int .u8 116] rfl rfl (World.news_of_block (heap_alloc_new _ _)) ?_ (by omega) (by unfold maxLen; omega) (by omega) (by simp; omega) _ rfl ?_))
                    · intro u hu
                      simp only [List.mem_cons, List.not_mem_nil, or_false] at hu
                      rcases hu with rfl | rfl <;> rfl
                    intro g1 cap1 w9 hown1 hg1 hat1 _
                    have R1 := Lib.hid (R.out.step2 (iv' := .int .i64 ((k : Int) + 1)) (by go_num) hown1 h7 (((Below.refl _ _).alloc (by omega) _).grown hg1 (by simp; omega) fun q hq => (R.out.own.lt q hq).1))
                    clear hown1 hg1 hat1
                    go_wp2_with fail
                    go_roundw
                    case rel => exact ⟨_, _, _, R1.out⟩
                    case measure => simp [intOf]; omega
                  | false =>
                    cases h92 : ((bn s k : Int) == 92) with
                    | true =>
                      go_wp2_with (at_builtin; go_must (refine wpList_append_lies _ rfl _ _ _ rfl w.heap.size 5 item (.int .u8 0) 1 1 Try.underlying39 ii1 ii2 ii3 ii4 rfl (by omega) _ n _ rfl (R.out.own.alloc _) ⟨wr.heap.size, 0, none⟩ 2 2 [.int .u8 92, .int .u8 (bn s k : Int)] rfl rfl (World.news_of_block (heap_alloc_new _ _)) ?_ (by omega) (by unfold maxLen; omega) (by omega) (by simp; omega) _ rfl ?_))
                      · intro u hu
                        simp only [List.mem_cons, List.not_mem_nil, or_false] at hu
                        rcases hu with rfl | rfl <;> rfl
                      intro g1 cap1 w9 hown1 hg1 hat1 _
                      have R1 := Lib.hid (R.out.step2 (iv' := .int .i64 ((k : Int) + 1)) (by go_num) hown1 h7 (((Below.refl _ _).alloc (by omega) _).grown hg1 (by simp; omega) fun q hq => (R.out.own.lt q hq).1))
                      clear hown1 hg1 hat1
                      go_wp2_with fail
                      go_roundw
                      case rel => exact ⟨_, _, _, R1.out⟩
                      case measure => simp [intOf]; omega
                    | false =>
                      cases h39 : ((bn s k : Int) == 39) with
                      | true =>
                        go_wp2_with (at_builtin; go_must (refine wpList_append_lies _ rfl _ _ _ rfl w.heap.size 5 item (.int .u8 0) 1 1 Try.underlying39 ii1 ii2 ii3 ii4 rfl (by omega) _ n _ rfl (R.out.own.alloc _) ⟨wr.heap.size, 0, none⟩ 2 2 [.int .u8 92, .int .u8 (bn s k : Int)] rfl rfl (World.news_of_block (heap_alloc_new _ _)) ?_ (by omega) (by unfold maxLen; omega) (by omega) (by simp; omega) _ rfl ?_))
                        · intro u hu
                          simp only [List.mem_cons, List.not_mem_nil, or_false] at hu
                          rcases hu with rfl | rfl <;> rfl
                        intro g1 cap1 w9 hown1 hg1 hat1 _
                        have R1 := Lib.hid (R.out.step2 (iv' := .int .i64 ((k : Int) + 1)) (by go_num) hown1 h7 (((Below.refl _ _).alloc (by omega) _).grown hg1 (by simp; omega) fun q hq => (R.out.own.lt q hq).1))
                        clear hown1 hg1 hat1
                        go_wp2_with fail
                        go_roundw
                        case rel => exact ⟨_, _, _, R1.out⟩
                        case measure => simp [intOf]; omega
                      | false =>
                        by_cases hlow : (bn s k : Int) < 32
                        · go_wp2_with fail
                          go_ret
                          exact ⟨⟨_, rfl⟩, R.out.low⟩
                        · by_cases hgr : (126 : Int) < (bn s k : Int)
                          · go_wp2_with fail
                            go_ret
                            exact ⟨⟨_, rfl⟩, R.out.low⟩
                          · go_wp2_with (at_builtin; go_must (refine wpList_push _ rfl _ _ _ rfl elU8 w.heap.size _ _ _ rfl (R.out.own.alloc _) _ _ (.int .u8 (bn s k : Int)) rfl (by simp [go_sem]) rfl (by omega) (by unfold maxLen; omega) (by simp; omega) ?_); intro v1 w1 hown1 hb1)
                            have R1 := Lib.hid (R.out.step1 (iv' := .int .i64 ((k : Int) + 1)) (by go_num) hown1 h7 (((Below.refl _ _).alloc (by omega) _).trans hb1))
                            clear hown1 hb1
                            go_wp2_with fail
                            go_roundw
                            case rel => exact ⟨_, _, _, R1.out⟩
                            case measure => simp [intOf]; omega
              · obtain rfl : k = s.size := by omega
                go_wp2_with (at_builtin; go_must (refine wpList_push _ rfl _ _ _ rfl elU8 w.heap.size _ _ _ rfl (R.out.own.alloc _) _ _ (.int .u8 39) rfl (by simp [go_sem]) rfl (by omega) (by unfold maxLen; omega) (by simp; omega) ?_); intro v1 w1 hown1 hb1)
                have hown2 : w1.ownsRow w.heap.size 5 1 v1 (n + 1) ((zs ++ [39]).map (Value.int .u8)) := by simpa using hown1
                obtain ⟨q, _, hconv⟩ := own_string hown2
                have BB := Lib.hid (R.out.low.trans (((Below.refl _ _).alloc (by omega) _).trans hb1))
                clear hown1 hb1 hown2
                go_wp2_with fail
                rw [hconv]
                go_wp2_with fail
                go_ret
                exact ⟨⟨q, rfl⟩, BB.out⟩
          | true =>
            have q4 : ((bn s 0 : Int) != 39) = false := by
              cases q4 : ((bn s 0 : Int) != 39) with
              | false => rfl
              | true => exact absurd ⟨by simpa using q1, by simpa using q2, by have h9 : (x.b : Int) = (s.size : Int) := (by simpa using q3); omega, by simpa using q4⟩ hall
            clear hall
            go_wp2_with fail
            clear q1 q2 q3 q4
            go_loopw [2, 6, 7, 8] (fun _ b iv _ wr => ∃ k n zs, QuR w s b iv wr k n zs) (fun _ _ iv _ _ => s.size - (intOf iv).toNat)
            case atStart => exact ⟨0, 1, [39], by go_num, ⟨rfl, .inr ⟨_, 1, _, rfl, hw1, heap_alloc_new _ _, Nat.le_refl _, by simp [maxLen], rfl, rfl⟩⟩, Nat.zero_le _, by omega, B1.out.alloc hw1 _⟩
            case round =>
              obtain ⟨k, n, zs, hr⟩ := hrel
              obtain rfl := hr.hi
              have R := Lib.hid hr
              have hk := hr.up
              have hfew := hr.few
              have hsz := hr.low.size
              clear hr
              by_cases h7 : k < s.size
              · have h7' : (k : Int) < (s.size : Int) := by omega
                cases h10 : ((bn s k : Int) == 10) with
                | true =>
                  go_wp2_with (at_builtin; go_must (refine wpList_append_lies _ rfl _ _ _ rfl w.heap.size 5 item (.int .u8 0) 1 1 Try.underlying39 ii1 ii2 ii3 ii4 rfl (by omega) _ n _ rfl (R.out.own.alloc _) ⟨wr.heap.size, 0, none⟩ 2 2 [.int .u8 92, .int .u8 110] rfl rfl (World.news_of_block (heap_alloc_new _ _)) ?_ (by omega) (by unfold maxLen; omega) (by omega) (by simp; omega) _ rfl ?_))
                  · intro u hu
                    simp only [List.mem_cons, List.not_mem_nil, or_false] at hu
                    rcases hu with rfl | rfl <;> rfl
                  intro g1 cap1 w9 hown1 hg1 hat1 _
                  have R1 := Lib.hid (R.out.step2 (iv' := .int .i64 ((k : Int) + 1)) (by go_num) hown1 h7 (((Below.refl _ _).alloc (by omega) _).grown hg1 (by simp; omega) fun q hq => (R.out.own.lt q hq).1))
                  clear hown1 hg1 hat1
                  go_wp2_with fail
                  go_roundw
                  case rel => exact ⟨_, _, _, R1.out⟩
                  case measure => simp [intOf]; omega
                | false =>
                  cases h9 : ((bn s k : Int) == 9) with
                  | true =>
                    go_wp2_with (at_builtin; go_must (refine wpList_append_lies _ rfl _ _ _ rfl w.heap.size 5 item (.int .u8 0) 1 1 Try.underlying39 ii1 ii2 ii3 ii4 rfl (by omega) _ n _ rfl (R.out.own.alloc _) ⟨wr.heap.size, 0, none⟩ 2 2 [.int .u8 92, .int .u8 116] rfl rfl (World.news_of_block (heap_alloc_new _ _)) ?_ (by omega) (by unfold maxLen; omega) (by omega) (by simp; omega) _ rfl ?_))
                    · intro u hu
                      simp only [List.mem_cons, List.not_mem_nil, or_false] at hu
                      rcases hu with rfl | rfl <;> rfl
                    intro g1 cap1 w9 hown1 hg1 hat1 _
                    have R1 := Lib.hid (R.out.step2 (iv' := .int .i64 ((k : Int) + 1)) (by go_num) hown1 h7 (((Below.refl _ _).alloc (by omega) _).grown hg1 (by simp; omega) fun q hq => (R.out.own.lt q hq).1))
                    clear hown1 hg1 hat1
                    go_wp2_with fail
                    go_roundw
                    case rel => exact ⟨_, _, _, R1.out⟩
                    case measure => simp [intOf]; omega
                  | false =>
                    cases h92 : ((bn s k : Int) == 92) with
                    | true =>
                      go_wp2_with (at_builtin; go_must (refine wpList_append_lies _ rfl _ _ _ rfl w.heap.size 5 item (.int .u8 0) 1 1 Try.underlying39 ii1 ii2 ii3 ii4 rfl (by omega) _ n _ rfl (R.out.own.alloc _) ⟨wr.heap.size, 0, none⟩ 2 2 [.int .u8 92, .int .u8 (bn s k : Int)] rfl rfl (World.news_of_block (heap_alloc_new _ _)) ?_ (by omega) (by unfold maxLen; omega) (by omega) (by simp; omega) _ rfl ?_))
                      · intro u hu
                        simp only [List.mem_cons, List.not_mem_nil, or_false] at hu
                        rcases hu with rfl | rfl <;> rfl
                      intro g1 cap1 w9 hown1 hg1 hat1 _
                      have R1 := Lib.hid (R.out.step2 (iv' := .int .i64 ((k : Int) + 1)) (by go_num) hown1 h7 (((Below.refl _ _).alloc (by omega) _).grown hg1 (by simp; omega) fun q hq => (R.out.own.lt q hq).1))
                      clear hown1 hg1 hat1
                      go_wp2_with fail
                      go_roundw
                      case rel => exact ⟨_, _, _, R1.out⟩
                      case measure => simp [intOf]; omega
                    | false =>
                      cases h39 : ((bn s k : Int) == 39) with
                      | true =>
                        go_wp2_with (at_builtin; go_must (refine wpList_append_lies _ rfl _ _ _ rfl w.heap.size 5 item (.int .u8 0) 1 1 Try.underlying39 ii1 ii2 ii3 ii4 rfl (by omega) _ n _ rfl (R.out.own.alloc _) ⟨wr.heap.size, 0, none⟩ 2 2 [.int .u8 92, .int .u8 (bn s k : Int)] rfl rfl (World.news_of_block (heap_alloc_new _ _)) ?_ (by omega) (by unfold maxLen; omega) (by omega) (by simp; omega) _ rfl ?_))
                        · intro u hu
                          simp only [List.mem_cons, List.not_mem_nil, or_false] at hu
                          rcases hu with rfl | rfl <;> rfl
                        intro g1 cap1 w9 hown1 hg1 hat1 _
                        have R1 := Lib.hid (R.out.step2 (iv' := .int .i64 ((k : Int) + 1)) (by go_num) hown1 h7 (((Below.refl _ _).alloc (by omega) _).grown hg1 (by simp; omega) fun q hq => (R.out.own.lt q hq).1))
                        clear hown1 hg1 hat1
                        go_wp2_with fail
                        go_roundw
                        case rel => exact ⟨_, _, _, R1.out⟩
                        case measure => simp [intOf]; omega
                      | false =>
                        by_cases hlow : (bn s k : Int) < 32
                        · go_wp2_with fail
                          go_ret
                          exact ⟨⟨_, rfl⟩, R.out.low⟩
                        · by_cases hgr : (126 : Int) < (bn s k : Int)
                          · go_wp2_with fail
                            go_ret
                            exact ⟨⟨_, rfl⟩, R.out.low⟩
                          · go_wp2_with (at_builtin; go_must (refine wpList_push _ rfl _ _ _ rfl elU8 w.heap.size _ _ _ rfl (R.out.own.alloc _) _ _ (.int .u8 (bn s k : Int)) rfl (by simp [go_sem]) rfl (by omega) (by unfold maxLen; omega) (by simp; omega) ?_); intro v1 w1 hown1 hb1)
                            have R1 := Lib.hid (R.out.step1 (iv' := .int .i64 ((k : Int) + 1)) (by go_num) hown1 h7 (((Below.refl _ _).alloc (by omega) _).trans hb1))
                            clear hown1 hb1
                            go_wp2_with fail
                            go_roundw
                            case rel => exact ⟨_, _, _, R1.out⟩
                            case measure => simp [intOf]; omega
              · obtain rfl : k = s.size := by omega
                go_wp2_with (at_builtin; go_must (refine wpList_push _ rfl _ _ _ rfl elU8 w.heap.size _ _ _ rfl (R.out.own.alloc _) _ _ (.int .u8 39) rfl (by simp [go_sem]) rfl (by omega) (by unfold maxLen; omega) (by simp; omega) ?_); intro v1 w1 hown1 hb1)
                have hown2 : w1.ownsRow w.heap.size 5 1 v1 (n + 1) ((zs ++ [39]).map (Value.int .u8)) := by simpa using hown1
                obtain ⟨q, _, hconv⟩ := own_string hown2
                have BB := Lib.hid (R.out.low.trans (((Below.refl _ _).alloc (by omega) _).trans hb1))
                clear hown1 hb1 hown2
                go_wp2_with fail
                rw [hconv]
                go_wp2_with fail
                go_ret
                exact ⟨⟨q, rfl⟩, BB.out⟩
  · by_cases her : er = 0
    · obtain ⟨n, l, hown, hln, _, _, hx⟩ := HOK.out her
      obtain ⟨A', c', rfl, _, _, _, _⟩ := own_open hown
      have hn1 : ((n : Int) == 1) = false := beq_eq_false_iff_ne.mpr fun h => hall ⟨her, A', c', by rw [show n = 1 by omega]⟩
      have her' : (er == 0) = true := by simpa using her
      clear hown hln hx hall her
      go_wp2_with fail
      go_loopw [2, 6, 7, 8] (fun _ b iv _ wr => ∃ k n zs, QuR w s b iv wr k n zs) (fun _ _ iv _ _ => s.size - (intOf iv).toNat)
      case atStart => exact ⟨0, 1, [39], by go_num, ⟨rfl, .inr ⟨_, 1, _, rfl, hw1, heap_alloc_new _ _, Nat.le_refl _, by simp [maxLen], rfl, rfl⟩⟩, Nat.zero_le _, by omega, B1.out.alloc hw1 _⟩
      case round =>
        obtain ⟨k, n, zs, hr⟩ := hrel
        obtain rfl := hr.hi
        have R := Lib.hid hr
        have hk := hr.up
        have hfew := hr.few
        have hsz := hr.low.size
        clear hr
        by_cases h7 : k < s.size
        · have h7' : (k : Int) < (s.size : Int) := by omega
          cases h10 : ((bn s k : Int) == 10) with
          | true =>
            go_wp2_with (at_builtin; go_must (refine wpList_append_lies _ rfl _ _ _ rfl w.heap.size 5 item (.int .u8 0) 1 1 Try.underlying39 ii1 ii2 ii3 ii4 rfl (by omega) _ n _ rfl (R.out.own.alloc _) ⟨wr.heap.size, 0, none⟩ 2 2 [.int .u8 92, .int .u8 110] rfl rfl (World.news_of_block (heap_alloc_new _ _)) ?_ (by omega) (by unfold maxLen; omega) (by omega) (by simp; omega) _ rfl ?_))
            · intro u hu
              simp only [List.mem_cons, List.not_mem_nil, or_false] at hu
              rcases hu with rfl | rfl <;> rfl
            intro g1 cap1 w9 hown1 hg1 hat1 _
            have R1 := Lib.hid (R.out.step2 (iv' := .int .i64 ((k : Int) + 1)) (by go_num) hown1 h7 (((Below.refl _ _).alloc (by omega) _).grown hg1 (by simp; omega) fun q hq => (R.out.own.lt q hq).1))
            clear hown1 hg1 hat1
            go_wp2_with fail
            go_roundw
            case rel => exact ⟨_, _, _, R1.out⟩
            case measure => simp [intOf]; omega
          | false =>
            cases h9 : ((bn s k : Int) == 9) with
            | true =>
              go_wp2_with (at_builtin; go_must (refine wpList_append_lies _ rfl _ _ _ rfl w.heap.size 5 item (.int .u8 0) 1 1 Try.underlying39 ii1 ii2 ii3 ii4 rfl (by omega) _ n _ rfl (R.out.own.alloc _) ⟨wr.heap.size, 0, none⟩ 2 2 [.int .u8 92, .int .u8 116] rfl rfl (World.news_of_block (heap_alloc_new _ _)) ?_ (by omega) (by unfold maxLen; omega) (by omega) (by simp; omega) _ rfl ?_))
              · intro u hu
                simp only [List.mem_cons, List.not_mem_nil, or_false] at hu
                rcases hu with rfl | rfl <;> rfl
              intro g1 cap1 w9 hown1 hg1 hat1 _
              have R1 := Lib.hid (R.out.step2 (iv' := .int .i64 ((k : Int) + 1)) (by go_num) hown1 h7 (((Below.refl _ _).alloc (by omega) _).grown hg1 (by simp; omega) fun q hq => (R.out.own.lt q hq).1))
              clear hown1 hg1 hat1
              go_wp2_with fail
              go_roundw
              case rel => exact ⟨_, _, _, R1.out⟩
              case measure => simp [intOf]; omega
            | false =>
              cases h92 : ((bn s k : Int) == 92) with
              | true =>
                go_wp2_with (at_builtin; go_must (refine wpList_append_lies _ rfl _ _ _ rfl w.heap.size 5 item (.int .u8 0) 1 1 Try.underlying39 ii1 ii2 ii3 ii4 rfl (by omega) _ n _ rfl (R.out.own.alloc _) ⟨wr.heap.size, 0, none⟩ 2 2 [.int .u8 92, .int .u8 (bn s k : Int)] rfl rfl (World.news_of_block (heap_alloc_new _ _)) ?_ (by omega) (by unfold maxLen; omega) (by omega) (by simp; omega) _ rfl ?_))
                · intro u hu
                  simp only [List.mem_cons, List.not_mem_nil, or_false] at hu
                  rcases hu with rfl | rfl <;> rfl
                intro g1 cap1 w9 hown1 hg1 hat1 _
                have R1 := Lib.hid (R.out.step2 (iv' := .int .i64 ((k : Int) + 1)) (by go_num) hown1 h7 (((Below.refl _ _).alloc (by omega) _).grown hg1 (by simp; omega) fun q hq => (R.out.own.lt q hq).1))
                clear hown1 hg1 hat1
                go_wp2_with fail
                go_roundw
                case rel => exact ⟨_, _, _, R1.out⟩
                case measure => simp [intOf]; omega
              | false =>
                cases h39 : ((bn s k : Int) == 39) with
                | true =>
                  go_wp2_with (at_builtin; go_must (refine wpList_append_lies _ rfl _ _ _ rfl w.heap.size 5 item (.int .u8 0) 1 1 Try.underlying39 ii1 ii2 ii3 ii4 rfl (by omega) _ n _ rfl (R.out.own.alloc _) ⟨wr.heap.size, 0, none⟩ 2 2 [.int .u8 92, .int .u8 (bn s k : Int)] rfl rfl (World.news_of_block (heap_alloc_new _ _)) ?_ (by omega) (by unfold maxLen; omega) (by omega) (by simp; omega) _ rfl ?_))
                  · intro u hu
                    simp only [List.mem_cons, List.not_mem_nil, or_false] at hu
                    rcases hu with rfl | rfl <;> rfl
                  intro g1 cap1 w9 hown1 hg1 hat1 _
                  have R1 := Lib.hid (R.out.step2 (iv' := .int .i64 ((k : Int) + 1)) (by go_num) hown1 h7 (((Below.refl _ _).alloc (by omega) _).grown hg1 (by simp; omega) fun q hq => (R.out.own.lt q hq).1))
                  clear hown1 hg1 hat1
                  go_wp2_with fail
                  go_roundw
                  case rel => exact ⟨_, _, _, R1.out⟩
                  case measure => simp [intOf]; omega
                | false =>
                  by_cases hlow : (bn s k : Int) < 32
                  · go_wp2_with fail
                    go_ret
                    exact ⟨⟨_, rfl⟩, R.out.low⟩
                  · by_cases hgr : (126 : Int) < (bn s k : Int)
                    · go_wp2_with fail
                      go_ret
                      exact ⟨⟨_, rfl⟩, R.out.low⟩
                    · go_wp2_with (at_builtin; go_must (refine wpList_push _ rfl _ _ _ rfl elU8 w.heap.size _ _ _ rfl (R.out.own.alloc _) _ _ (.int .u8 (bn s k : Int)) rfl (by simp [go_sem]) rfl (by omega) (by unfold maxLen; omega) (by simp; omega) ?_); intro v1 w1 hown1 hb1)
                      have R1 := Lib.hid (R.out.step1 (iv' := .int .i64 ((k : Int) + 1)) (by go_num) hown1 h7 (((Below.refl _ _).alloc (by omega) _).trans hb1))
                      clear hown1 hb1
                      go_wp2_with fail
                      go_roundw
                      case rel => exact ⟨_, _, _, R1.out⟩
                      case measure => simp [intOf]; omega
        · obtain rfl : k = s.size := by omega
          go_wp2_with (at_builtin; go_must (refine wpList_push _ rfl _ _ _ rfl elU8 w.heap.size _ _ _ rfl (R.out.own.alloc _) _ _ (.int .u8 39) rfl (by simp [go_sem]) rfl (by omega) (by unfold maxLen; omega) (by simp; omega) ?_); intro v1 w1 hown1 hb1)
          have hown2 : w1.ownsRow w.heap.size 5 1 v1 (n + 1) ((zs ++ [39]).map (Value.int .u8)) := by simpa using hown1
          obtain ⟨q, _, hconv⟩ := own_string hown2
          have BB := Lib.hid (R.out.low.trans (((Below.refl _ _).alloc (by omega) _).trans hb1))
          clear hown1 hb1 hown2
          go_wp2_with fail
          rw [hconv]
          go_wp2_with fail
          go_ret
          exact ⟨⟨q, rfl⟩, BB.out⟩
    · have her' : (er == 0) = false := by simpa using her
      clear hall her
      go_wp2_with fail
      go_loopw [2, 6, 7, 8] (fun _ b iv _ wr => ∃ k n zs, QuR w s b iv wr k n zs) (fun _ _ iv _ _ => s.size - (intOf iv).toNat)
      case atStart => exact ⟨0, 1, [39], by go_num, ⟨rfl, .inr ⟨_, 1, _, rfl, hw1, heap_alloc_new _ _, Nat.le_refl _, by simp [maxLen], rfl, rfl⟩⟩, Nat.zero_le _, by omega, B1.out.alloc hw1 _⟩
      case round =>
        obtain ⟨k, n, zs, hr⟩ := hrel
        obtain rfl := hr.hi
        have R := Lib.hid hr
        have hk := hr.up
        have hfew := hr.few
        have hsz := hr.low.size
        clear hr
        by_cases h7 : k < s.size
        · have h7' : (k : Int) < (s.size : Int) := by omega
          cases h10 : ((bn s k : Int) == 10) with
          | true =>
            go_wp2_with (at_builtin; go_must (refine wpList_append_lies _ rfl _ _ _ rfl w.heap.size 5 item (.int .u8 0) 1 1 Try.underlying39 ii1 ii2 ii3 ii4 rfl (by omega) _ n _ rfl (R.out.own.alloc _) ⟨wr.heap.size, 0, none⟩ 2 2 [.int .u8 92, .int .u8 110] rfl rfl (World.news_of_block (heap_alloc_new _ _)) ?_ (by omega) (by unfold maxLen; omega) (by omega) (by simp; omega) _ rfl ?_))
            · intro u hu
              simp only [List.mem_cons, List.not_mem_nil, or_false] at hu
              rcases hu with rfl | rfl <;> rfl
            intro g1 cap1 w9 hown1 hg1 hat1 _
            have R1 := Lib.hid (R.out.step2 (iv' := .int .i64 ((k : Int) + 1)) (by go_num) hown1 h7 (((Below.refl _ _).alloc (by omega) _).grown hg1 (by simp; omega) fun q hq => (R.out.own.lt q hq).1))
            clear hown1 hg1 hat1
            go_wp2_with fail
            go_roundw
            case rel => exact ⟨_, _, _, R1.out⟩
            case measure => simp [intOf]; omega
          | false =>
            cases h9 : ((bn s k : Int) == 9) with
            | true =>
              go_wp2_with (at_builtin; go_must (refine wpList_append_lies _ rfl _ _ _ rfl w.heap.size 5 item (.int .u8 0) 1 1 Try.underlying39 ii1 ii2 ii3 ii4 rfl (by omega) _ n _ rfl (R.out.own.alloc _) ⟨wr.heap.size, 0, none⟩ 2 2 [.int .u8 92, .int .u8 116] rfl rfl (World.news_of_block (heap_alloc_new _ _)) ?_ (by omega) (by unfold maxLen; omega) (by omega) (by simp; omega) _ rfl ?_))
              · intro u hu
                simp only [List.mem_cons, List.not_mem_nil, or_false] at hu
                rcases hu with rfl | rfl <;> rfl
              intro g1 cap1 w9 hown1 hg1 hat1 _
              have R1 := Lib.hid (R.out.step2 (iv' := .int .i64 ((k : Int) + 1)) (by go_num) hown1 h7 (((Below.refl _ _).alloc (by omega) _).grown hg1 (by simp; omega) fun q hq => (R.out.own.lt q hq).1))
              clear hown1 hg1 hat1
              go_wp2_with fail
              go_roundw
              case rel => exact ⟨_, _, _, R1.out⟩
              case measure => simp [intOf]; omega
            | false =>
              cases h92 : ((bn s k : Int) == 92) with
              | true =>
                go_wp2_with (at_builtin; go_must (refine wpList_append_lies _ rfl _ _ _ rfl w.heap.size 5 item (.int .u8 0) 1 1 Try.underlying39 ii1 ii2 ii3 ii4 rfl (by omega) _ n _ rfl (R.out.own.alloc _) ⟨wr.heap.size, 0, none⟩ 2 2 [.int .u8 92, .int .u8 (bn s k : Int)] rfl rfl (World.news_of_block (heap_alloc_new _ _)) ?_ (by omega) (by unfold maxLen; omega) (by omega) (by simp; omega) _ rfl ?_))
                · intro u hu
                  simp only [List.mem_cons, List.not_mem_nil, or_false] at hu
                  rcases hu with rfl | rfl <;> rfl
                intro g1 cap1 w9 hown1 hg1 hat1 _
                have R1 := Lib.hid (R.out.step2 (iv' := .int .i64 ((k : Int) + 1)) (by go_num) hown1 h7 (((Below.refl _ _).alloc (by omega) _).grown hg1 (by simp; omega) fun q hq => (R.out.own.lt q hq).1))
                clear hown1 hg1 hat1
                go_wp2_with fail
                go_roundw
                case rel => exact ⟨_, _, _, R1.out⟩
                case measure => simp [intOf]; omega
              | false =>
                cases h39 : ((bn s k : Int) == 39) with
                | true =>
                  go_wp2_with (at_builtin; go_must (refine wpList_append_lies _ rfl _ _ _ rfl w.heap.size 5 item (.int .u8 0) 1 1 Try.underlying39 ii1 ii2 ii3 ii4 rfl (by omega) _ n _ rfl (R.out.own.alloc _) ⟨wr.heap.size, 0, none⟩ 2 2 [.int .u8 92, .int .u8 (bn s k : Int)] rfl rfl (World.news_of_block (heap_alloc_new _ _)) ?_ (by omega) (by unfold maxLen; omega) (by omega) (by simp; omega) _ rfl ?_))
                  · intro u hu
                    simp only [List.mem_cons, List.not_mem_nil, or_false] at hu
                    rcases hu with rfl | rfl <;> rfl
                  intro g1 cap1 w9 hown1 hg1 hat1 _
                  have R1 := Lib.hid (R.out.step2 (iv' := .int .i64 ((k : Int) + 1)) (by go_num) hown1 h7 (((Below.refl _ _).alloc (by omega) _).grown hg1 (by simp; omega) fun q hq => (R.out.own.lt q hq).1))
                  clear hown1 hg1 hat1
                  go_wp2_with fail
                  go_roundw
                  case rel => exact ⟨_, _, _, R1.out⟩
                  case measure => simp [intOf]; omega
                | false =>
                  by_cases hlow : (bn s k : Int) < 32
                  · go_wp2_with fail
                    go_ret
                    exact ⟨⟨_, rfl⟩, R.out.low⟩
                  · by_cases hgr : (126 : Int) < (bn s k : Int)
                    · go_wp2_with fail
                      go_ret
                      exact ⟨⟨_, rfl⟩, R.out.low⟩
                    · go_wp2_with (at_builtin; go_must (refine wpList_push _ rfl _ _ _ rfl elU8 w.heap.size _ _ _ rfl (R.out.own.alloc _) _ _ (.int .u8 (bn s k : Int)) rfl (by simp [go_sem]) rfl (by omega) (by unfold maxLen; omega) (by simp; omega) ?_); intro v1 w1 hown1 hb1)
                      have R1 := Lib.hid (R.out.step1 (iv' := .int .i64 ((k : Int) + 1)) (by go_num) hown1 h7 (((Below.refl _ _).alloc (by omega) _).trans hb1))
                      clear hown1 hb1
                      go_wp2_with fail
                      go_roundw
                      case rel => exact ⟨_, _, _, R1.out⟩
                      case measure => simp [intOf]; omega
        · obtain rfl : k = s.size := by omega
          go_wp2_with (at_builtin; go_must (refine wpList_push _ rfl _ _ _ rfl elU8 w.heap.size _ _ _ rfl (R.out.own.alloc _) _ _ (.int .u8 39) rfl (by simp [go_sem]) rfl (by omega) (by unfold maxLen; omega) (by simp; omega) ?_); intro v1 w1 hown1 hb1)
          have hown2 : w1.ownsRow w.heap.size 5 1 v1 (n + 1) ((zs ++ [39]).map (Value.int .u8)) := by simpa using hown1
          obtain ⟨q, _, hconv⟩ := own_string hown2
          have BB := Lib.hid (R.out.low.trans (((Below.refl _ _).alloc (by omega) _).trans hb1))
          clear hown1 hb1 hown2
          go_wp2_with fail
          rw [hconv]
          go_wp2_with fail
          go_ret
          exact ⟨⟨q, rfl⟩, BB.out⟩
end Go.Proofs.Ytjjkigphfijnbaa
