/- The walks through coneyref10: Control, callable: they come to an end, with some answer. -/
import Derived.Test.YtlgeepjlnjlgdaaVars
import Derived.Test.YtlgeepjlnjlgdaaTL
namespace Go.Proofs.Ytlgeepjlnjlgdaa
open Go.RowKit

def SomeB (w : World) (e : Ending) (w' : World) : Prop := (∃ b : Bool, e = .returned (.bool b)) ∧ Below w.heap.size w w'
theorem someIs (t : T) (nm : ByteArray) (q : Nat) : ∃ b : Bool, b = true ↔ isT t nm.toList q := by
  by_cases h : isT t nm.toList q
  · exact ⟨true, fun _ => h, fun _ => rfl⟩
  · exact ⟨false, fun h1 => (by cases h1), fun h1 => absurd h1 h⟩
set_option maxRecDepth 100000 in
set_option maxHeartbeats 4000000 in
theorem control_any {t : T} (hok : t.ok) {v : Value} {w : World} {S : Nat → Prop} (hv : TP w S t v) : Calls Try.prog 36 #[v] w fun e w' => SomeB w e w' := by
  obtain ⟨k, n, s, A, m, c, rfl⟩ := hv.agg
  have HV := Lib.hid hv
  have BX := Lib.hid (belA (Below.refl w.heap.size w) (Obj.cells #[.int .i64 k, .int .i64 n, .string s, .slice A m c] 24))
  have HB0 := Lib.hid (heap_alloc_new w (Obj.cells #[.int .i64 k, .int .i64 n, .string s, .slice A m c] 24))
  have HOK := Lib.hid hok
  clear hv hok
  go_enter Try.func36, Try.ntmps36
  obtain ⟨b0, hb0⟩ := someIs t ⟨#[44]⟩ 2
  have C0 := Lib.hid (is_any HOK.out (HV.out.below BX.out) ⟨#[44]⟩ 2 hb0)
  clear hb0
  go_wp2_with fail
  refine C0.out.mono ?_
  rintro e w1 ⟨rfl, h1⟩
  have B1 := Lib.hid (BX.out.trans (h1.mono BX.out.size))
  have HB1 := Lib.hid ((h1.block w.heap.size (heap_lt HB0.out)).trans HB0.out)
  have hl1 := heap_lt HB1.out
  obtain ⟨x0, x1, x2, x3⟩ := box4t HB1.out
  clear h1 C0
  cases b0 with
  | true =>
    go_wp2_with fail
    go_ret
    exact ⟨⟨_, rfl⟩, B1.out⟩
  | false =>
    skip
    obtain ⟨b1, hb1⟩ := someIs t ⟨#[59]⟩ 2
    have C1 := Lib.hid (is_any HOK.out (HV.out.below B1.out) ⟨#[59]⟩ 2 hb1)
    clear hb1
    go_wp2_with fail
    refine C1.out.mono ?_
    rintro e w2 ⟨rfl, h2⟩
    have B2 := Lib.hid (B1.out.trans (h2.mono B1.out.size))
    have HB2 := Lib.hid ((h2.block w.heap.size (heap_lt HB1.out)).trans HB1.out)
    have hl2 := heap_lt HB2.out
    obtain ⟨x0, x1, x2, x3⟩ := box4t HB2.out
    clear h2 C1
    cases b1 with
    | true =>
      go_wp2_with fail
      go_ret
      exact ⟨⟨_, rfl⟩, B2.out⟩
    | false =>
      skip
      obtain ⟨b2, hb2⟩ := someIs t ⟨#[45, 62]⟩ 2
      have C2 := Lib.hid (is_any HOK.out (HV.out.below B2.out) ⟨#[45, 62]⟩ 2 hb2)
      clear hb2
      go_wp2_with fail
      refine C2.out.mono ?_
      rintro e w3 ⟨rfl, h3⟩
      have B3 := Lib.hid (B2.out.trans (h3.mono B2.out.size))
      have HB3 := Lib.hid ((h3.block w.heap.size (heap_lt HB2.out)).trans HB2.out)
      have hl3 := heap_lt HB3.out
      obtain ⟨x0, x1, x2, x3⟩ := box4t HB3.out
      clear h3 C2
      cases b2 with
      | true =>
        go_wp2_with fail
        go_ret
        exact ⟨⟨_, rfl⟩, B3.out⟩
      | false =>
        skip
        obtain ⟨b3, hb3⟩ := someIs t ⟨#[92, 43]⟩ 1
        have C3 := Lib.hid (is_any HOK.out (HV.out.below B3.out) ⟨#[92, 43]⟩ 1 hb3)
        clear hb3
        go_wp2_with fail
        refine C3.out.mono ?_
        rintro e w4 ⟨rfl, h4⟩
        have B4 := Lib.hid (B3.out.trans (h4.mono B3.out.size))
        have HB4 := Lib.hid ((h4.block w.heap.size (heap_lt HB3.out)).trans HB3.out)
        have hl4 := heap_lt HB4.out
        obtain ⟨x0, x1, x2, x3⟩ := box4t HB4.out
        clear h4 C3
        cases b3 with
        | true =>
          go_wp2_with fail
          go_ret
          exact ⟨⟨_, rfl⟩, B4.out⟩
        | false =>
          skip
          obtain ⟨b4, hb4⟩ := someIs t ⟨#[33]⟩ 0
          have C4 := Lib.hid (is_any HOK.out (HV.out.below B4.out) ⟨#[33]⟩ 0 hb4)
          clear hb4
          go_wp2_with fail
          refine C4.out.mono ?_
          rintro e w5 ⟨rfl, h5⟩
          have B5 := Lib.hid (B4.out.trans (h5.mono B4.out.size))
          have HB5 := Lib.hid ((h5.block w.heap.size (heap_lt HB4.out)).trans HB4.out)
          have hl5 := heap_lt HB5.out
          obtain ⟨x0, x1, x2, x3⟩ := box4t HB5.out
          clear h5 C4
          go_wp2_with fail
          go_ret
          exact ⟨⟨_, rfl⟩, B5.out⟩
set_option maxRecDepth 100000 in
set_option maxHeartbeats 4000000 in
theorem callable_any : ∀ (t : T), t.ok → ∀ (v : Value) (w : World) (S : Nat → Prop), TP w S t v → Calls Try.prog 37 #[v] w fun e w' => SomeB w e w' := by
  intro t
  induction t with
  | nil => exact fun _ _ _ _ h => h.elim
  | mk k n s m a ih =>
    intro hok v w S hv
    obtain ⟨k', n', s', A, m', c, rfl⟩ := hv.agg
    obtain ⟨e0, e1, e2, rfl, hmc, hA, _⟩ := hv.args
    injection e0 with _ e0
    injection e1 with _ e1
    injection e2 with e2
    subst e0; subst e1; subst e2
    have HV := Lib.hid hv
    have BX := Lib.hid (belA (Below.refl w.heap.size w) (Obj.cells #[.int .i64 k', .int .i64 n', .string s', .slice A m' c] 24))
    have HB0 := Lib.hid (heap_alloc_new w (Obj.cells #[.int .i64 k', .int .i64 n', .string s', .slice A m' c] 24))
    have HOK := Lib.hid hok
    have IH := Lib.hid ih
    have hm : m' < 4000 := hok.few
    clear hv hok ih hA
    cases h2 : (k' == 2) with
    | true =>
      go_enter Try.func37, Try.ntmps37
      go_wp2_with fail
      go_ret
      exact ⟨⟨_, rfl⟩, BX.out⟩
    | false =>
      go_enter Try.func37, Try.ntmps37
      go_wp2_with fail
      go_loopw [2, 3] (fun _ iv wr => ∃ i : Nat, iv = .int .i64 (i : Int) ∧ i ≤ m' ∧ Below w.heap.size w wr ∧ wr.heap[w.heap.size]? = some (.cells #[.int .i64 k', .int .i64 n', .string s', .slice A m' c] 24 (0, 0))) (fun _ iv _ => m' - (intOf iv).toNat)
      case atStart => exact ⟨0, rfl, Nat.zero_le _, BX.out, HB0.out⟩
      case round =>
        obtain ⟨i, rfl, hi, hbw, hbox⟩ := hrel
        have BW := Lib.hid hbw
        have HB1 := Lib.hid hbox
        have hl1 := heap_lt hbox
        obtain ⟨x0, x1, x2, x3⟩ := box4t hbox
        have CC := Lib.hid (control_any HOK.out (HV.out.below hbw))
        clear hbw hbox
        go_wp2_with fail
        refine CC.out.mono ?_
        rintro e w1 ⟨⟨b, rfl⟩, h1⟩
        have B1 := Lib.hid (BW.out.trans (h1.mono BW.out.size))
        have HB2 := Lib.hid ((h1.block w.heap.size (heap_lt HB1.out)).trans HB1.out)
        have hl2 := heap_lt HB2.out
        obtain ⟨y0, y1, y2, y3⟩ := box4t HB2.out
        clear h1 CC x0 x1 x2 x3
        cases b with
        | false =>
          go_wp2_with fail
          go_ret
          exact ⟨⟨_, rfl⟩, B1.out⟩
        | true =>
          by_cases him : i < m'
          · have him' : (i : Int) < (m' : Int) := by omega
            obtain ⟨_, _, _, _, _, _, hargs⟩ := (HV.out.below B1.out).args
            obtain ⟨g, k0, k1, k2, A0, m0, c0, rfl, _, hg, c0', c1', c2', c3', ht⟩ := hargs i him
            have CI := Lib.hid (IH.out i (HOK.out.arg him) _ w1 S ht)
            clear hargs ht
            go_wp2_with fail
            refine CI.out.mono ?_
            rintro e w2 ⟨⟨b2, rfl⟩, h2'⟩
            have B2 := Lib.hid (B1.out.trans (h2'.mono B1.out.size))
            have HB3 := Lib.hid ((h2'.block w.heap.size (heap_lt HB2.out)).trans HB2.out)
            clear h2' CI y0 y1 y2 y3
            cases b2 with
            | false =>
              go_wp2_with fail
              go_ret
              exact ⟨⟨_, rfl⟩, B2.out⟩
            | true =>
              go_wp2_with fail
              go_roundw
              case rel => exact ⟨i + 1, by go_num, him, B2.out, HB3.out⟩
              case measure => simp [intOf]; omega
          · have him' : ¬ (i : Int) < (m' : Int) := by omega
            go_wp2_with fail
            go_ret
            exact ⟨⟨_, rfl⟩, B1.out⟩
end Go.Proofs.Ytlgeepjlnjlgdaa
