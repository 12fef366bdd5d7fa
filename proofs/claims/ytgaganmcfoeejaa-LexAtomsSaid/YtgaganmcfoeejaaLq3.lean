/- The program's Quote: the plain one. -/
import Derived.Test.YtgaganmcfoeejaaLq1
import Derived.Test.YtgaganmcfoeejaaLq2
namespace Go.Proofs.Ytgaganmcfoeejaa
open Go.RowKit

/-- What the loop of the program's Quote has gathered: w the world in which its builder is made. -/
structure QW (w : World) (s : ByteArray) (iv : Value) (wr : World) (k : Nat) (l : List UInt8) : Prop where
  hi : iv = .int .i64 (k : Int)
  bl : Lib.IsBuilder TB 5 w.heap.size w.heap.size (Lib.byteCells (39 :: l)) wr
  up : k ≤ s.size
  esc : escN (s.data.toList.take k) = some l
  low : Below w.heap.size w wr
theorem QW.few {w : World} {s : ByteArray} {iv : Value} {wr : World} {k : Nat} {l : List UInt8} (h : QW w s iv wr k l) : l.length ≤ 2 * k := by
  have h1 := escN_len _ _ h.esc
  rw [List.length_take] at h1
  omega
theorem QW.step {w : World} {s : ByteArray} {iv : Value} {wr w' : World} {k : Nat} {l : List UInt8} {iv' : Value} {vs : List Value} (h : QW w s iv wr k l) (y : List UInt8) (hy : esc1 (bu s k) = some y)
    (hi' : iv' = .int .i64 ((k + 1 : Nat) : Int)) (hb : Lib.IsBuilder TB 5 w.heap.size w.heap.size (Lib.byteCells (39 :: l) ++ vs) w') (hv : vs = Lib.byteCells y) (hk : k < s.size) (hw : Below w.heap.size wr w') : QW w s iv' w' (k + 1) (l ++ y) := by
  subst hv
  refine ⟨hi', ?_, hk, by rw [take_succ s hk, escN_snoc, h.esc, hy], h.low.trans hw⟩
  have e : Lib.byteCells (39 :: (l ++ y)) = Lib.byteCells (39 :: l) ++ Lib.byteCells y := by simp [Lib.byteCells]
  rw [e]
  exact hb
theorem str_two (s : ByteArray) {k : Nat} (hk : k < s.size) : Lib.strCells ((⟨#[92]⟩ : ByteArray) ++ s.extract k (k + 1)) = Lib.byteCells [92, bu s k] := by
  have e : ((⟨#[92]⟩ : ByteArray) ++ s.extract k (k + 1)).data.toList = [92, bu s k] := by
    have h1 := list_extract s k (k + 1)
    have h2 : s.data.toList.drop k = bu s k :: s.data.toList.drop (k + 1) := by
      have h : k < s.data.toList.length := by rw [list_len]; exact hk
      rw [← List.getElem_cons_drop h]
      congr 1
      have := list_at s hk
      rw [List.getElem?_eq_getElem h] at this
      injection this
    rw [ByteArray.data_append, Array.toList_append, h1, h2, show k + 1 - k = 1 by omega]
    rfl
  simp only [Lib.strCells, Lib.byteCells, e]
set_option maxHeartbeats 16000000 in
set_option maxRecDepth 100000 in
theorem pquote_any (s : ByteArray) (hs : s.size ≤ 4096) (w : World) : Calls Try.prog 11 #[.string s] w fun e w' => e = .returned (.string (quoteN s)) ∧ Below w.heap.size w w' := by
  have hb : ∀ (i : Nat) (h : i < s.size), (s[i]'h).toNat = bn s i := bn_eq s
  have hs' : (s.size : Int) ≤ 4096 := by omega
  go_enter Try.func11, Try.ntmps11
  go_wp2_with fail
  refine (plain_any s hs w).mono ?_
  rintro e w1 ⟨rfl, hb1⟩
  have B1 := Lib.hid hb1
  clear hb1
  cases hp : plainN s with
  | true =>
    have HP := Lib.hid hp
    go_wp2_with fail
    go_ret
    exact ⟨by rw [quote_plain HP.out]; rfl, B1.out⟩
  | false =>
    have HP := Lib.hid hp
    clear hp
    have CW := Lib.hid (wbyte_any w1.heap.size w1.heap.size [] 39 _ (bld_new w1) (by simp) (by simp))
    go_wp2_with fail
    refine CW.out.mono ?_
    rintro e w2 ⟨rfl, hbl, hb2⟩
    have B2 := Lib.hid ((Below.refl _ _).alloc (Nat.le_refl w1.heap.size) (.cells #[.pointer none, .slice none 0 0] TB) |>.trans hb2)
    have L2 := Lib.hid hbl
    clear hbl hb2 CW
    go_wp2_with fail
    go_loopw [2, 4, 5, 17] (fun _ _ _ kv wr => ∃ k l, QW w1 s kv wr k l) (fun _ _ _ kv _ => s.size - (intOf kv).toNat)
    case atStart => exact ⟨0, [], rfl, L2.out, Nat.zero_le _, rfl, B2.out⟩
    case round =>
      clear L2 B2
      obtain ⟨k, l, hr⟩ := hrel
      obtain rfl := hr.hi
      have R := Lib.hid hr
      have hk := hr.up
      have hfew := hr.few
      have hsz := hr.low.size
      have CW := Lib.hid (fun (x : Int) => wbyte_any w1.heap.size w1.heap.size (Lib.byteCells (39 :: l)) x wr R.out.bl (by rw [Lib.byteCells_length]; simp; omega) hsz)
      have CS := Lib.hid (fun (q : ByteArray) (hq : q.size ≤ 10) => wstring_any w1.heap.size w1.heap.size (Lib.byteCells (39 :: l)) q wr R.out.bl (by rw [Lib.byteCells_length]; simp; omega) hsz)
      clear hr
      by_cases h7 : k < s.size
      · have h7' : (k : Int) < (s.size : Int) := by omega
        cases h10 : ((bn s k : Int) == 10) with
        | true =>
          have HE := Lib.hid (esc_10 h10)
          go_wp2_with fail
          refine (CS.out ⟨#[92, 110]⟩ (by decide)).mono ?_
          rintro e w3 ⟨rfl, hbl, hb3⟩
          have R1 := Lib.hid (R.out.step [92, 110] HE.out (iv' := .int .i64 ((k : Int) + 1)) (by go_num) hbl rfl h7 hb3)
          clear hbl hb3
          go_wp2_with fail
          go_roundw
          case rel => exact ⟨_, _, R1.out⟩
          case measure => simp [intOf]; omega
        | false =>
          cases h9 : ((bn s k : Int) == 9) with
          | true =>
            have HE := Lib.hid (esc_9 h9)
            go_wp2_with fail
            refine (CS.out ⟨#[92, 116]⟩ (by decide)).mono ?_
            rintro e w3 ⟨rfl, hbl, hb3⟩
            have R1 := Lib.hid (R.out.step [92, 116] HE.out (iv' := .int .i64 ((k : Int) + 1)) (by go_num) hbl rfl h7 hb3)
            clear hbl hb3
            go_wp2_with fail
            go_roundw
            case rel => exact ⟨_, _, R1.out⟩
            case measure => simp [intOf]; omega
          | false =>
            have hk2 : ((k : Int) + 1).toNat = k + 1 := by omega
            have hk3 : (k : Int) ≤ (k : Int) + 1 := by omega
            have hk4 : (k : Int) + 1 ≤ (s.size : Int) := by omega
            have hx1 : (s.extract k (k + 1)).size ≤ 1 := by rw [ByteArray.size_extract]; omega
            cases h92 : ((bn s k : Int) == 92) with
            | true =>
              have HE := Lib.hid (esc_92 h92)
              go_wp2_with fail
              refine (CS.out _ (by rw [ByteArray.size_append]; have : (ByteArray.mk #[92]).size = 1 := rfl; omega)).mono ?_
              rintro e w3 ⟨rfl, hbl, hb3⟩
              have R1 := Lib.hid (R.out.step [92, bu s k] HE.out (iv' := .int .i64 ((k : Int) + 1)) (by go_num) hbl (str_two s h7) h7 hb3)
              clear hbl hb3
              go_wp2_with fail
              go_roundw
              case rel => exact ⟨_, _, R1.out⟩
              case measure => simp [intOf]; omega
            | false =>
              cases h39 : ((bn s k : Int) == 39) with
              | true =>
                have HE := Lib.hid (esc_39 h39)
                go_wp2_with fail
                refine (CS.out _ (by rw [ByteArray.size_append]; have : (ByteArray.mk #[92]).size = 1 := rfl; omega)).mono ?_
                rintro e w3 ⟨rfl, hbl, hb3⟩
                have R1 := Lib.hid (R.out.step [92, bu s k] HE.out (iv' := .int .i64 ((k : Int) + 1)) (by go_num) hbl (str_two s h7) h7 hb3)
                clear hbl hb3
                go_wp2_with fail
                go_roundw
                case rel => exact ⟨_, _, R1.out⟩
                case measure => simp [intOf]; omega
              | false =>
                by_cases hlow : (bn s k : Int) < 32
                · have HQ := Lib.hid (quote_none HP.out h7 (esc_bad h10 h9 h92 h39 (.inl hlow)))
                  go_wp2_with fail
                  go_ret
                  exact ⟨by rw [HQ.out]; rfl, B1.out.trans (R.out.low.mono B1.out.size)⟩
                · by_cases hgr : (126 : Int) < (bn s k : Int)
                  · have HQ := Lib.hid (quote_none HP.out h7 (esc_bad h10 h9 h92 h39 (.inr hgr)))
                    go_wp2_with fail
                    go_ret
                    exact ⟨by rw [HQ.out]; rfl, B1.out.trans (R.out.low.mono B1.out.size)⟩
                  · have HE := Lib.hid (esc_self h10 h9 h92 h39 hlow hgr)
                    go_wp2_with fail
                    refine (CW.out _).mono ?_
                    rintro e w3 ⟨rfl, hbl, hb3⟩
                    have R1 := Lib.hid (R.out.step [bu s k] HE.out (iv' := .int .i64 ((k : Int) + 1)) (by go_num) hbl rfl h7 hb3)
                    clear hbl hb3
                    go_wp2_with fail
                    go_roundw
                    case rel => exact ⟨_, _, R1.out⟩
                    case measure => simp [intOf]; omega
      · obtain rfl : k = s.size := by omega
        have HQ := Lib.hid (quote_some HP.out R.out.esc)
        have CG := Lib.hid (Try.Builder_String_any w1.heap.size w1.heap.size (39 :: l) wr R.out.bl hsz)
        have hl2 : (ByteArray.mk (39 :: l).toArray).size ≤ 10000 := by show (39 :: l).length ≤ 10000; simp; omega
        go_wp2_with fail
        refine CG.out.mono ?_
        rintro e w3 ⟨rfl, hb3⟩
        have B3 := Lib.hid (B1.out.trans ((R.out.low.trans hb3).mono B1.out.size))
        clear hb3 CG
        go_wp2_with fail
        go_ret
        refine ⟨?_, B3.out⟩
        rw [HQ.out]
        rfl
end Go.Proofs.Ytgaganmcfoeejaa
