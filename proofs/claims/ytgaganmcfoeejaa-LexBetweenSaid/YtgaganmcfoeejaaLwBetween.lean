/- The walk through the law LexBetween. -/
import Derived.Test.YtgaganmcfoeejaaLp7
import Derived.Test.YtgaganmcfoeejaaLw1
import Derived.Test.YtgaganmcfoeejaaLsame
namespace Go.Proofs.Ytgaganmcfoeejaa
open Go.RowKit

theorem tk_take (l : List Tk) (k : Nat) (hk : k ≤ l.length) : (tkCells l).take (k * 4) = tkCells (l.take k) := by
  have h : tkCells l = tkCells (l.take k) ++ tkCells (l.drop k) := by
    simp only [tkCells]
    rw [← List.flatMap_append, List.take_append_drop]
  rw [h, List.take_left']
  rw [tkCells_length, List.length_take, Nat.min_eq_left hk, Nat.mul_comm]
theorem own_tk_take {w : World} {base : Nat} {A : Option Addr} {n c : Nat} {l : List Tk} (h : w.ownsRow base 29 4 (.slice A n c) n (tkCells l)) {k : Nat} (hk : k ≤ n) (hn : n = l.length) : w.ownsRow base 29 4 (.slice A k c) k (tkCells (l.take k)) := by
  subst hn
  rw [← tk_take l k hk]
  obtain ⟨hl, hv⟩ := h
  refine ⟨by rw [List.length_take, hl]; have := Nat.mul_le_mul_right 4 hk; omega, ?_⟩
  rcases hv with ⟨he, h0⟩ | ⟨g, cap, cur, he, hg, hh, hnc, hmx, hsz, htk⟩
  · injection he with e1 _ e3
    have hk0 : k = 0 := by omega
    subst hk0; subst e1; subst e3
    exact .inl ⟨rfl, rfl⟩
  · injection he with e1 _ e3
    subst e1; subst e3
    refine .inr ⟨g, c, cur, rfl, hg, hh, by omega, hmx, hsz, ?_⟩
    rw [← htk, List.take_take, Nat.min_eq_left (Nat.mul_le_mul_right 4 hk)]
theorem between_plain {s t : ByteArray} {a b : List Tk} (ha : lexN s = .ok a) (hb : lexN t = .ok b) (hs : s.size ≤ 1024) (ht : t.size ≤ 1024) (hn : a.length + b.length ≤ 1000) :
    lexN (s ++ ⟨#[10]⟩ ++ t) = .ok (a ++ b.map (Tk.sh (s.size + 1) 0)) := by
  have h10 : (ByteArray.mk #[10]).size = 1 := rfl
  have hsz : (s ++ ⟨#[10]⟩ ++ t).size = s.size + 1 + t.size := by rw [ByteArray.size_append, ByteArray.size_append, h10]
  have hb10 : bu (s ++ ⟨#[10]⟩ ++ t) s.size = 10 := by
    rw [bu_append, if_pos (by rw [ByteArray.size_append, h10]; omega), bu_append, if_neg (by omega), Nat.sub_self]
    rfl
  have hbn : (bn (s ++ ⟨#[10]⟩ ++ t) s.size : Int) = 10 := by rw [bn_bu, hb10]; rfl
  refine lex_join ha hb ⟨by omega, fun i hi => ?_, by rw [hbn]; rfl, ?_⟩ ⟨hsz, by omega, fun i => ?_⟩ hn (by omega)
  · rw [bu_append, if_pos (by rw [ByteArray.size_append, h10]; omega), bu_append, if_pos hi]
  · rw [lineN_stop (by rw [hbn]; rfl)]
  · have : (s ++ ⟨#[10]⟩ : ByteArray).size = s.size + 1 := by rw [ByteArray.size_append, h10]
    rw [bu_append, if_neg (by omega), this, Nat.add_sub_cancel_left, Nat.zero_add]
set_option maxHeartbeats 16000000 in
set_option maxRecDepth 100000 in
theorem lexbetween_any (s t : ByteArray) {w : World} {mx : Int} (hmx : w.cell? ⟨0, 0, none⟩ = some (.int .i64 mx)) :
    Calls Try.prog 5 #[.string s, .string t] w fun e w' => e = .returned (.bool true) ∧ Below w.heap.size w w' := by
  by_cases hbig : (1024 : Int) < (s.size : Int)
  · go_enter Try.func5, Try.ntmps5
    go_wp2_with fail
    go_ret
    exact ⟨rfl, Below.refl _ _⟩
  by_cases hbig2 : (1024 : Int) < (t.size : Int)
  · go_enter Try.func5, Try.ntmps5
    go_wp2_with fail
    go_ret
    exact ⟨rfl, Below.refl _ _⟩
  have HMX := Lib.hid hmx
  have hw0 := Lib.hid (World.block_lt_of_cell? w _ hmx)
  clear hmx
  go_enter Try.func5, Try.ntmps5
  go_wp2_with fail
  refine (ptokens_any s w HMX.out).mono ?_
  rintro e w1 ⟨⟨v, p, er, rfl, hq1⟩, hb1⟩
  have B1 := Lib.hid hb1
  have Q1 := Lib.hid hq1
  have M1 := Lib.hid ((hb1.cell hw0.out).trans HMX.out)
  clear hb1 hq1
  go_wp2_with fail
  refine (ptokens_any t w1 M1.out).mono ?_
  rintro e w2 ⟨⟨v2, p2, er2, rfl, hq2⟩, hb2⟩
  have B2 := Lib.hid (B1.out.trans (hb2.mono B1.out.size))
  have B12 := Lib.hid hb2
  have Q2 := Lib.hid hq2
  clear hb2 hq2
  go_wp2_with fail
  refine (rtokens_any s w2).mono ?_
  rintro e w3 ⟨⟨v3, p3, er3, rfl, hq3⟩, hb3⟩
  have B3 := Lib.hid (B2.out.trans (hb3.mono B2.out.size))
  have B23 := Lib.hid hb3
  have Q3 := Lib.hid hq3
  clear hb3 hq3
  go_wp2_with fail
  refine (rtokens_any t w3).mono ?_
  rintro e w4 ⟨⟨v4, p4, er4, rfl, hq4⟩, hb4⟩
  have B4 := Lib.hid (B3.out.trans (hb4.mono B3.out.size))
  have B34 := Lib.hid hb4
  have Q4 := Lib.hid hq4
  have M4 := Lib.hid ((B4.out.cell hw0.out).trans HMX.out)
  clear hb4 hq4
  cases hL : lexN s with
  | bad q er0 =>
    have h1 := Q1.out
    have h3 := Q3.out
    unfold TokQ at h1 h3
    rw [hL] at h1 h3
    obtain ⟨_, _, rfl, hne⟩ := h1
    obtain ⟨_, _, rfl, _⟩ := h3
    have hee : er4 = er2 := by
      have h2 := Q2.out
      have h4 := Q4.out
      unfold TokQ at h2 h4
      cases hT : lexN t with
      | bad q e =>
        rw [hT] at h2 h4
        rw [h2.2.2.1, h4.2.2.1]
      | ok l =>
        rw [hT] at h2 h4
        rw [h2.2.1, h4.2.1]
    subst hee
    have hne' : (er3 == 0) = false := by simpa using hne
    clear hL hne
    go_wp2_with fail
    refine (ptokens_any _ w4 M4.out).mono ?_
    rintro e w5 ⟨⟨v5, p5, er5, rfl, hq5⟩, hb5⟩
    have B5 := Lib.hid (B4.out.trans (hb5.mono B4.out.size))
    clear hq5 hb5
    go_wp2_with fail
    go_ret
    exact ⟨rfl, B5.out⟩
  | ok a =>
    have h1 := Q1.out
    have h3 := Q3.out
    unfold TokQ at h1 h3
    rw [hL] at h1 h3
    obtain ⟨rfl, rfl, ho1, hf1, _, _⟩ := h1
    obtain ⟨rfl, rfl, _, _, _, _⟩ := h3
    have OA := Lib.hid ho1
    have HL := Lib.hid hL
    clear ho1 hL
    cases hT : lexN t with
    | bad q er0 =>
      have h2 := Q2.out
      have h4 := Q4.out
      unfold TokQ at h2 h4
      rw [hT] at h2 h4
      obtain ⟨_, _, rfl, hne⟩ := h2
      obtain ⟨_, _, rfl, _⟩ := h4
      have hne' : (er4 == 0) = false := by simpa using hne
      clear hT hne
      go_wp2_with fail
      refine (ptokens_any _ w4 M4.out).mono ?_
      rintro e w5 ⟨⟨v5, p5, er5, rfl, hq5⟩, hb5⟩
      have B5 := Lib.hid (B4.out.trans (hb5.mono B4.out.size))
      clear hq5 hb5
      go_wp2_with fail
      go_ret
      exact ⟨rfl, B5.out⟩
    | ok b =>
      have h2 := Q2.out
      have h4 := Q4.out
      unfold TokQ at h2 h4
      rw [hT] at h2 h4
      obtain ⟨rfl, rfl, ho2, hf2, _, _⟩ := h2
      obtain ⟨rfl, rfl, _, _, _, _⟩ := h4
      have OB := Lib.hid ho2
      have HT := Lib.hid hT
      clear ho2 hT
      obtain ⟨A, ca, rfl, hca, _, _, _⟩ := own_open OA.out
      obtain ⟨A', cb, rfl, hcb, _, _, _⟩ := own_open OB.out
      go_wp2_with fail
      refine (ptokens_any _ w4 M4.out).mono ?_
      rintro e w5 ⟨⟨v5, p5, er5, rfl, hq5⟩, hb5⟩
      have B5 := Lib.hid (B4.out.trans (hb5.mono B4.out.size))
      have OA5 := Lib.hid (own_below OA.out (B12.out.trans ((B23.out.trans ((B34.out.trans (hb5.mono B34.out.size)).mono B23.out.size)).mono B12.out.size)))
      have OB5 := Lib.hid (own_below OB.out (B23.out.trans ((B34.out.trans (hb5.mono B34.out.size)).mono B23.out.size)))
      have Q5 := Lib.hid hq5
      clear hq5 hb5 Q1 Q2 Q3 Q4 B1 B2 B3 B4 B12 B23 B34 M1 M4
      by_cases hmany : (1000 : Int) < (a.length : Int) + (b.length : Int)
      · have hwr : IntKind.i64.wrap ((a.length : Int) + (b.length : Int)) = (a.length : Int) + (b.length : Int) := by rw [IntKind.wrap_i64]; omega
        go_wp2_with fail
        go_ret
        exact ⟨rfl, B5.out⟩
      · have h5 := Q5.out
        unfold TokQ at h5
        rw [between_plain HL.out HT.out (by omega) (by omega) (by omega)] at h5
        obtain ⟨rfl, rfl, ho5, _, _, _⟩ := h5
        have hcl : (a ++ b.map (Tk.sh (s.size + 1) 0)).length = a.length + b.length := by simp
        rw [hcl] at ho5
        have OC := Lib.hid ho5
        have HCL := Lib.hid hcl
        clear ho5 hcl Q5
        obtain ⟨A5, c5, rfl, hc5, hA5, hm5, _⟩ := own_open OC.out
        have hwr : IntKind.i64.wrap ((a.length : Int) + (b.length : Int)) = (a.length : Int) + (b.length : Int) := by rw [IntKind.wrap_i64]; omega
        have hcast : ((a.length + b.length : Nat) : Int) = (a.length : Int) + (b.length : Int) := by omega
        go_wp2_with fail
        go_loopw [20] (fun kv wr => ∃ (k : Nat), kv = .int .i64 (k : Int) ∧ k ≤ b.length ∧ Below w5.heap.size w5 wr) (fun kv _ => b.length - (intOf kv).toNat)
        case atStart => exact ⟨0, rfl, Nat.zero_le _, Below.refl _ _⟩
        case round =>
          obtain ⟨k, rfl, hk, hbw⟩ := hrel
          have BW := Lib.hid hbw
          have OBr := Lib.hid (own_below OB5.out hbw)
          have OCr := Lib.hid (own_below OC.out hbw)
          have OAr := Lib.hid (own_below OA5.out hbw)
          clear hbw
          by_cases hkb : k < b.length
          · have hkb' : (k : Int) < (b.length : Int) := by omega
            have hak : a.length + k < (a ++ b.map (Tk.sh (s.size + 1) 0)).length := by rw [HCL.out]; omega
            obtain ⟨y, hy⟩ : ∃ y, b[k]'hkb = y := ⟨_, rfl⟩
            have hx : (a ++ b.map (Tk.sh (s.size + 1) 0))[a.length + k]'hak = y.sh (s.size + 1) 0 := by
              rw [List.getElem_append_right (by omega), List.getElem_map]
              simp only [Nat.add_sub_cancel_left, hy]
            obtain ⟨g, rfl, hg, hcell⟩ := tokrow OCr.out HCL.out.symm hak
            rw [hx] at hcell
            have h0 := hcell 0 (by omega)
            have h1 := hcell 1 (by omega)
            have h2 := hcell 2 (by omega)
            have h3 := hcell 3 (by omega)
            obtain ⟨g', rfl, hg', kcell⟩ := tokrow OBr.out rfl hkb
            rw [hy] at kcell
            have k0 := kcell 0 (by omega)
            have k1 := kcell 1 (by omega)
            have k2 := kcell 2 (by omega)
            have k3 := kcell 3 (by omega)
            simp [Tk.cells, Tk.sh] at h0 h1 h2 h3 k0 k1 k2 k3
            have hsum : (y.a : Int) + ((s.size : Int) + 1) = (y.a : Int) + (s.size : Int) + 1 := by omega
            rw [hsum] at h2
            have hya : y.a ≤ t.size := by
              have := (lexN_ok HT.out).2.2 y (hy ▸ List.getElem_mem hkb)
              exact Nat.le_of_lt (Nat.lt_of_lt_of_le this.2.2.2.1 this.2.2.2.2)
            have hw1 : IntKind.i64.wrap ((y.a : Int) + (s.size : Int)) = (y.a : Int) + (s.size : Int) := by rw [IntKind.wrap_i64]; omega
            have hw2 : IntKind.i64.wrap ((y.a : Int) + (s.size : Int) + 1) = (y.a : Int) + (s.size : Int) + 1 := by rw [IntKind.wrap_i64]; omega
            clear hcell kcell hx hy hsum
            have hyk : IntKind.i64.wrap ((a.length : Int) + (k : Int)) = (a.length : Int) + (k : Int) := by rw [IntKind.wrap_i64]; omega
            go_wp2_with fail
            go_region
            go_wp2_with fail
            go_roundw
            case rel =>
              refine ⟨k + 1, by go_num, by omega, ?_⟩
              first | exact (BW.out.alloc BW.out.size _).drew | exact BW.out.alloc BW.out.size _
            case measure => simp [intOf]; omega
          · go_wp2_with fail
            have e1 := own_tk_take OCr.out (k := a.length) (by omega) HCL.out.symm
            rw [List.take_left] at e1
            refine (same3_any wr e1 OAr.out hf1).mono ?_
            rintro e w6 ⟨⟨r, rfl, hr⟩, hb6⟩
            have B6 := Lib.hid (B5.out.trans ((BW.out.trans (hb6.mono BW.out.size)).mono B5.out.size))
            obtain rfl : r = true := hr.2 rfl
            clear hr hb6
            go_wp2_with fail
            go_ret
            exact ⟨rfl, B6.out⟩
end Go.Proofs.Ytgaganmcfoeejaa
