/- The walk through the law LexNotes. -/
import Derived.Test.YtgaganmcfoeejaaLp7
import Derived.Test.YtgaganmcfoeejaaLw2
import Derived.Test.YtgaganmcfoeejaaLsame
namespace Go.Proofs.Ytgaganmcfoeejaa
open Go.RowKit

/-- What the first loop has gathered: a note without line feeds and stars. -/
structure NoteRel (B : Nat) (W : World) (note : ByteArray) (cv iv : Value) (wr : World) (k n : Nat) (l : List UInt8) : Prop where
  hi : iv = .int .i64 (k : Int)
  up : k ≤ note.size
  few : n ≤ k
  own : wr.ownsRow B 5 1 cv n ((l.map fun c => (c.toNat : Int)).map (Value.int .u8))
  cl : ∀ c ∈ l, c ≠ 10 ∧ c ≠ 42
  below : Below B W wr
theorem NoteRel.step {B : Nat} {W : World} {note : ByteArray} {cv iv : Value} {wr w1 : World} {k n : Nat} {l : List UInt8} {cv' iv' : Value} {x : Int} {c : UInt8} (h : NoteRel B W note cv iv wr k n l) (hk : k < note.size)
    (hi' : iv' = .int .i64 (k + 1 : Nat)) (hown : w1.ownsRow B 5 1 cv' (n + 1) ((l.map fun c => (c.toNat : Int)).map (Value.int .u8) ++ [.int .u8 x])) (hb : Below B wr w1) (hc : x = (c.toNat : Int)) (h1 : c ≠ 10) (h2 : c ≠ 42) :
    NoteRel B W note cv' iv' w1 (k + 1) (n + 1) (l ++ [c]) :=
  ⟨hi', hk, by have := h.few; omega, by subst hc; simpa using hown, fun d hd => by
    rcases List.mem_append.1 hd with hd | hd
    · exact h.cl d hd
    · simp at hd; subst hd; exact ⟨h1, h2⟩, h.below.trans hb⟩
set_option maxHeartbeats 16000000 in
set_option maxRecDepth 100000 in
theorem lexnotes_any (s t note : ByteArray) {w : World} {mx : Int} (hmx : w.cell? ⟨0, 0, none⟩ = some (.int .i64 mx)) :
    Calls Try.prog 3 #[.string s, .string t, .string note] w fun e w' => e = .returned (.bool true) ∧ Below w.heap.size w w' := by
  by_cases hbig : (512 : Int) < (s.size : Int)
  · go_enter Try.func3, Try.ntmps3
    go_wp2_with fail
    go_ret
    exact ⟨rfl, Below.refl _ _⟩
  by_cases hbig2 : (512 : Int) < (t.size : Int)
  · go_enter Try.func3, Try.ntmps3
    go_wp2_with fail
    go_ret
    exact ⟨rfl, Below.refl _ _⟩
  by_cases hbig3 : (256 : Int) < (note.size : Int)
  · go_enter Try.func3, Try.ntmps3
    go_wp2_with fail
    go_ret
    exact ⟨rfl, Below.refl _ _⟩
  have HMX := Lib.hid hmx
  have hw0 := Lib.hid (World.block_lt_of_cell? w _ hmx)
  clear hmx
  have hb : ∀ (i : Nat) (h : i < note.size), (note[i]'h).toNat = bn note i := bn_eq note
  go_enter Try.func3, Try.ntmps3
  go_wp2_with fail
  go_loopw [7, 8] (fun cv iv wr => ∃ k n l, NoteRel w.heap.size w note cv iv wr k n l) (fun _ iv _ => note.size - (intOf iv).toNat)
  case atStart =>
    exact ⟨0, 0, [], rfl, by omega, by omega, ownsRow_empty _ _ _ _ (heap_alloc_new _ _), by simp, (Below.refl _ _).alloc (Nat.le_refl _) _⟩
  case round =>
    obtain ⟨k, n, l, hr⟩ := hrel
    obtain rfl := hr.hi
    have R := Lib.hid hr
    have hk := hr.up
    have hfew := hr.few
    have hsz := hr.below.size
    clear hr
    by_cases hks : k < note.size
    · have hks' : (k : Int) < (note.size : Int) := by omega
      have HKP := Lib.hid (show ((k : Int) + 1) = ((k + 1 : Nat) : Int) by omega)
      cases h10 : ((bn note k : Int) == 10) with
      | true =>
        have h10' : ((bn note k : Int) != 10) = false := by simp [bne, h10]
        go_wp2_with fail
        go_roundw
        case rel => exact ⟨k + 1, n, l, by go_num, hks, by omega, R.out.own, R.out.cl, R.out.below⟩
        case measure => simp [intOf]; omega
      | false =>
        have h10' : ((bn note k : Int) != 10) = true := by simp [bne, h10]
        cases h42 : ((bn note k : Int) == 42) with
        | true =>
          have h42' : ((bn note k : Int) != 42) = false := by simp [bne, h42]
          go_wp2_with fail
          go_roundw
          case rel => exact ⟨k + 1, n, l, by go_num, hks, by omega, R.out.own, R.out.cl, R.out.below⟩
          case measure => simp [intOf]; omega
        | false =>
          have h42' : ((bn note k : Int) != 42) = true := by simp [bne, h42]
          have HC := Lib.hid (show bu note k ≠ 10 ∧ bu note k ≠ 42 from ⟨fun e => (by rw [bn_bu, e] at h10; simp at h10), fun e => (by rw [bn_bu, e] at h42; simp at h42)⟩)
          go_wp2_with (at_builtin; go_must (refine wpList_push _ rfl _ _ _ rfl elU8 w.heap.size _ _ _ rfl (R.out.own.alloc _) _ _ (.int .u8 (bn note k)) rfl (by simp [go_sem]) rfl (by omega) (by unfold maxLen; omega) (by simp; omega) ?_); intro v1 w1 hown1 hb1)
          have R1 := R.out.step (iv' := .int .i64 ((k + 1 : Nat) : Int)) hks rfl hown1 (((Below.refl _ _).alloc (by omega) _).trans hb1) (by rfl) HC.out.1 HC.out.2
          rw [← HKP.out] at R1
          clear hown1 hb1
          go_wp2_with fail
          go_roundw
          case rel => exact ⟨_, _, _, R1⟩
          case measure => simp [intOf]; omega
    · have hkn : k = note.size := by omega
      have M0 := Lib.hid ((R.out.below.cell hw0.out).trans HMX.out)
      go_wp2_with fail
      refine (ptokens_any _ wr M0.out).mono ?_
      rintro e w1 ⟨⟨v1, p1, er1, rfl, hq1⟩, hb1⟩
      have Q1 := Lib.hid hq1
      have B1 := Lib.hid hb1
      have T1 := Lib.hid (R.out.below.trans (hb1.mono hsz))
      have M1 := Lib.hid ((T1.out.cell hw0.out).trans HMX.out)
      have hconv := own_text (own_below R.out.own hb1)
      obtain ⟨cl, hclE⟩ : ∃ cl : ByteArray, cl = ⟨l.toArray⟩ := ⟨_, rfl⟩
      have hcl : ∀ i, i < cl.size → bu cl i ≠ 10 ∧ bu cl i ≠ 42 := fun i hi => by
        subst hclE
        have hi' : i < l.length := hi
        have e : bu ⟨l.toArray⟩ i = l[i] := by simp [bu, List.getD_eq_getElem?_getD, hi']
        rw [e]
        exact R.out.cl _ (List.getElem_mem hi')
      have hcs : cl.size ≤ 256 := by
        subst hclE
        have h1 : l.length = n := by have := own_len R.out.own; simpa using this
        show l.length ≤ 256
        omega
      have HCL := Lib.hid hcl
      rw [← hclE] at hconv
      clear hq1 hb1 hcl hclE
      go_wp2_with fail
      refine (ptokens_any _ w1 M1.out).mono ?_
      rintro e w2 ⟨⟨v2, p2, er2, rfl, hq2⟩, hb2⟩
      have Q2 := Lib.hid hq2
      have B2 := Lib.hid hb2
      have T2 := Lib.hid (T1.out.trans (hb2.mono T1.out.size))
      clear hq2 hb2 hconv
      go_wp2_with fail
      refine (rtokens_any _ w2).mono ?_
      rintro e w3 ⟨⟨v3, p3, er3, rfl, hq3⟩, hb3⟩
      have Q3 := Lib.hid hq3
      have B3 := Lib.hid hb3
      have T3 := Lib.hid (T2.out.trans (hb3.mono T2.out.size))
      clear hq3 hb3
      go_wp2_with fail
      refine (rtokens_any _ w3).mono ?_
      rintro e w4 ⟨⟨v4, p4, er4, rfl, hq4⟩, hb4⟩
      have Q4 := Lib.hid hq4
      have B4 := Lib.hid hb4
      have T4 := Lib.hid (T3.out.trans (hb4.mono T3.out.size))
      clear hq4 hb4 M1 M0
      have q1 : TokQ (spaced s t) wr.heap.size w1 v1 p1 er1 := Q1.out
      have q2 : TokQ (noted s cl t) w1.heap.size w2 v2 p2 er2 := Q2.out
      have q3 : TokQ (spaced s t) w2.heap.size w3 v3 p3 er3 := Q3.out
      have q4 : TokQ s w3.heap.size w4 v4 p4 er4 := Q4.out
      clear Q1 Q2 Q3 Q4
      unfold TokQ at q1 q3
      cases hL : lexN (spaced s t) with
      | bad q er0 =>
        rw [hL] at q1 q3
        obtain ⟨rfl, rfl, rfl, hne⟩ := q1
        obtain ⟨rfl, rfl, rfl, _⟩ := q3
        have hne' : (er3 == 0) = false := by simpa using hne
        have Q2 := Lib.hid q2
        have Q4 := Lib.hid q4
        clear hL hne q2 q4
        have o0 : ∀ w : World, w.ownsRow 0 29 4 (.slice none 0 0) ([] : List Tk).length (tkCells []) := fun w => ⟨rfl, .inl ⟨rfl, rfl⟩⟩
        have O0 := Lib.hid o0
        clear o0
        go_wp2_with fail
        refine (same3_any (a := []) (b := []) w4 (O0.out w4) (O0.out w4) (by simp)).mono ?_
        rintro e w5 ⟨⟨r, rfl, hr⟩, hb5⟩
        have T5 := Lib.hid (T4.out.trans (hb5.mono T4.out.size))
        obtain rfl : r = true := hr.2 rfl
        clear hr hb5
        go_wp2_with fail
        all_goals
          go_ret
          exact ⟨rfl, T5.out⟩
      | ok a =>
        rw [hL] at q1 q3
        obtain ⟨rfl, rfl, o1, hf1, _, _⟩ := q1
        obtain ⟨rfl, rfl, o3, _, _, _⟩ := q3
        have O1 := Lib.hid (own_below o1 (B2.out.trans ((B3.out.trans (B4.out.mono B3.out.size)).mono B2.out.size)))
        have O3 := Lib.hid (own_below o3 B4.out)
        have Q2 := Lib.hid q2
        have Q4 := Lib.hid q4
        have HL := Lib.hid hL
        clear o1 o3 q2 q4 hL
        go_wp2_with fail
        refine (same3_any (a := a) (b := a) w4 O1.out O3.out hf1).mono ?_
        rintro e w5 ⟨⟨r, rfl, hr⟩, hb5⟩
        have T5 := Lib.hid (T4.out.trans (hb5.mono T4.out.size))
        have B5 := Lib.hid hb5
        obtain rfl : r = true := hr.2 rfl
        clear hr hb5
        have q4 := Q4.out
        unfold TokQ at q4
        cases hR : lexN s with
        | bad q er0 =>
          rw [hR] at q4
          obtain ⟨_, _, rfl, hne⟩ := q4
          have hne' : ¬ er4 = 0 := hne
          clear hne hR
          go_wp2_with fail
          go_ret
          exact ⟨rfl, T5.out⟩
        | ok r =>
          rw [hR] at q4
          obtain ⟨rfl, rfl, _, _, _, _⟩ := q4
          obtain ⟨b, hb1, hb2, hb3⟩ := notes_plain HCL.out HL.out hR (by omega) (by omega) hcs
          have q2 := Q2.out
          unfold TokQ at q2
          rw [hb1] at q2
          obtain ⟨rfl, rfl, o2, _, _, _⟩ := q2
          have O2 := Lib.hid (own_below o2 (B3.out.trans ((B4.out.trans (B5.out.mono B4.out.size)).mono B3.out.size)))
          have O1' := Lib.hid (own_below O1.out B5.out)
          have HB := Lib.hid hb3
          have HLen := Lib.hid hb2
          have hlen : (b.length : Int) = (a.length : Int) := by omega
          obtain ⟨A, ca, rfl, hca, _, _, _⟩ := own_open O1.out
          obtain ⟨A', cb, rfl, hcb, _, _, _⟩ := own_open O2.out
          clear o2 hb1 hb2 hb3 hR Q2 Q4 O1 O3
          go_wp2_with fail
          go_loopw [21] (fun iv wr => ∃ (i : Nat), iv = .int .i64 (i : Int) ∧ i ≤ a.length ∧ Below w5.heap.size w5 wr) (fun iv _ => a.length - (intOf iv).toNat)
          case atStart => exact ⟨0, rfl, Nat.zero_le _, Below.refl _ _⟩
          case round =>
            obtain ⟨i, rfl, hi, hbw⟩ := hrel
            have BW := Lib.hid hbw
            have OA := Lib.hid (own_below O1'.out hbw)
            have OB := Lib.hid (own_below O2.out hbw)
            clear hbw
            by_cases hia : i < a.length
            · have hia' : (i : Int) < (a.length : Int) := by omega
              have hib' : (i : Int) < (b.length : Int) := by omega
              have hib : i < b.length := by omega
              have hxy := HB.out i hia hib
              obtain ⟨g, rfl, hg, hcell⟩ := tokrow OA.out rfl hia
              obtain ⟨x, hx⟩ : ∃ x, a[i]'hia = x := ⟨_, rfl⟩
              rw [hx] at hcell hxy
              obtain ⟨g', rfl, hg', kcell⟩ := tokrow OB.out rfl hib
              obtain ⟨y, hy⟩ : ∃ y, b[i]'hib = y := ⟨_, rfl⟩
              rw [hy] at kcell hxy
              have h0 := hcell 0 (by omega)
              have h1 := hcell 1 (by omega)
              have k0 := kcell 0 (by omega)
              have k1 := kcell 1 (by omega)
              simp [Tk.cells] at h0 h1 k0 k1
              rw [hxy.1] at k0
              rw [hxy.2] at k1
              clear hcell kcell hx hy hxy
              go_wp2_with fail
              go_region
              go_wp2_with fail
              go_roundw
              case rel =>
                refine ⟨i + 1, by go_num, by omega, ?_⟩
                first | exact BW.out | exact BW.out.drew
              case measure => simp [intOf]; omega
            · go_wp2_with fail
              go_ret
              exact ⟨rfl, T5.out.trans (BW.out.mono T5.out.size)⟩
end Go.Proofs.Ytgaganmcfoeejaa
