/- The walk through the law LexPlaces. -/
import Derived.Test.YtgaganmcfoeejaaLp7
import Derived.Test.YtgaganmcfoeejaaLw0
namespace Go.Proofs.Ytgaganmcfoeejaa
open Go.RowKit

theorem tok_row {w : World} {B : Nat} {A : Option Addr} {c i : Nat} {l : List Tk} (h : w.ownsRow B 29 4 (.slice A l.length c) l.length (tkCells l)) (hi : i < l.length) : ∃ g, A = some ⟨g, 0, none⟩ ∧ g < w.heap.size ∧ ∀ j, j < 4 → w.cell? ⟨g, i * 4 + j, none⟩ = (l[i]'hi).cells[j]? := by
  obtain ⟨A', c', he, _, _, _, hx⟩ := own_open h
  injection he with e1 _ e3
  subst e1; subst e3
  obtain ⟨g, cur, rfl, _, hh, hc⟩ := hx (by omega)
  exact ⟨g, rfl, heap_lt hh, fun j hj => by rw [cell_of_row w g (i * 4 + j) _ _ _ hh, hc _ (by omega), Nat.mul_comm i 4]; exact tkCells_at l i hi j hj⟩
set_option maxHeartbeats 4000000 in
set_option maxRecDepth 100000 in
theorem lexplaces_any (s : ByteArray) {w : World} {mx : Int} (hmx : w.cell? ⟨0, 0, none⟩ = some (.int .i64 mx)) :
    Calls Try.prog 4 #[.string s] w fun e w' => e = .returned (.bool true) ∧ Below w.heap.size w w' := by
  by_cases hbig : (16384 : Int) < (s.size : Int)
  · go_enter Try.func4, Try.ntmps4
    go_wp2_with fail
    go_ret
    exact ⟨rfl, Below.refl _ _⟩
  have HMX := Lib.hid hmx
  clear hmx
  go_enter Try.func4, Try.ntmps4
  go_wp2_with fail
  refine (ptokens_any s w HMX.out).mono ?_
  rintro e w1 ⟨⟨v, p, er, rfl, hq1⟩, hb1⟩
  go_wp2_with fail
  refine (rtokens_any s w1).mono ?_
  rintro e w2 ⟨⟨v2, p2, er2, rfl, hq2⟩, hb2⟩
  have B2 := Lib.hid (hb1.trans (hb2.mono hb1.size))
  unfold TokQ at hq1 hq2
  cases hL : lexN s with
  | bad q er0 =>
    rw [hL] at hq1 hq2
    obtain ⟨rfl, rfl, rfl, hne⟩ := hq1
    obtain ⟨rfl, rfl, rfl, _⟩ := hq2
    have hne' : (er2 == 0) = false := by simpa using hne
    clear hne hb1 hb2 hL
    go_wp2_with fail
    go_loopw [9, 10] (fun ev iv wr => ev = .int .i64 0 ∧ iv = .int .i64 0 ∧ Below w.heap.size w wr) (fun _ _ _ => 0)
    case atStart => exact ⟨rfl, rfl, B2.out⟩
    case round =>
      obtain ⟨rfl, rfl, hbw⟩ := hrel
      have BW := Lib.hid hbw
      clear hbw B2
      go_wp2_with fail
      go_ret
      exact ⟨rfl, BW.out⟩
  | ok l =>
    rw [hL] at hq1 hq2
    obtain ⟨rfl, rfl, hown, hfew, hsz, _⟩ := hq1
    obtain ⟨rfl, rfl, _, _, _, _⟩ := hq2
    have RS := Lib.hid (lex_rise hL)
    have OW := Lib.hid (own_below hown hb2)
    obtain ⟨A, c, rfl, hc, _, _, _⟩ := own_open hown
    clear hown hb1 hb2 hL
    go_wp2_with fail
    go_loopw [9, 10] (fun ev iv wr => ∃ (i en : Nat), ev = .int .i64 (en : Int) ∧ iv = .int .i64 (i : Int) ∧ i ≤ l.length ∧ Rise s en (l.drop i) ∧ wr.ownsRow w.heap.size 29 4 (.slice A l.length c) l.length (tkCells l) ∧ Below w.heap.size w wr) (fun _ iv _ => l.length - (intOf iv).toNat)
    case atStart => exact ⟨0, 0, rfl, rfl, Nat.zero_le _, by simpa using RS.out, OW.out, B2.out⟩
    case round =>
      clear RS OW B2
      obtain ⟨i, en, rfl, rfl, hi, hri, how, hbw⟩ := hrel
      have OW := Lib.hid how
      have BW := Lib.hid hbw
      have HR := Lib.hid hri
      clear how hbw hri
      by_cases hil : i < l.length
      · have hil' : (i : Int) < (l.length : Int) := by omega
        obtain ⟨x, hx⟩ : ∃ x, l[i]'hil = x := ⟨_, rfl⟩
        obtain ⟨g, rfl, hg, hcell⟩ := tok_row OW.out hil
        rw [hx] at hcell
        have h0 := hcell 0 (by omega)
        have h1 := hcell 1 (by omega)
        have h2 := hcell 2 (by omega)
        have h3 := hcell 3 (by omega)
        simp [Tk.cells] at h0 h1 h2 h3
        have hd : l.drop i = x :: l.drop (i + 1) := by rw [← hx]; exact (List.getElem_cons_drop hil).symm
        have hr := HR.out
        rw [hd] at hr
        obtain ⟨ra, rb, rc, rt, rr⟩ := hr
        have RT := Lib.hid rt
        have RR := Lib.hid rr
        have hxs : x.a < s.size := by omega
        have hb : ∀ (i : Nat) (h : i < s.size), (s[i]'h).toNat = bn s i := bn_eq s
        have n1 : ¬ (x.a : Int) < (en : Int) := by omega
        have n2 : ¬ (x.b : Int) ≤ (x.a : Int) := by omega
        have n3 : ¬ (s.size : Int) < (x.b : Int) := by omega
        have n4 : (x.a : Int) < (s.size : Int) := by omega
        have n5 : (x.a : Int) ≤ (x.b : Int) := by omega
        have n6 : (x.b : Int) ≤ (s.size : Int) := by omega
        clear hcell hx hd rt rr HR
        cases hq : ((bn s x.a : Int) == 39)
        · have HT := Lib.hid (RT.out hq)
          have hq' : ((bn s x.a : Int) != 39) = true := by simpa [bne] using hq
          have hte : (x.t.toList == (s.extract x.a x.b).toList) = true := by rw [HT.out]; simp
          have hte2 : ((s.extract x.a x.b).toList == x.t.toList) = true := by rw [HT.out]; simp
          go_wp2_with fail
          go_region
          go_wp2_with fail
          go_roundw
          case rel =>
            have hbl : Below wr.heap.size wr (wr.alloc (.cells #[.int .i64 x.k, .string x.t, .int .i64 (x.a : Int), .int .i64 (x.b : Int)] 29)) := (Below.refl _ _).alloc (Nat.le_refl _) _
            exact ⟨i + 1, x.b, rfl, by go_num, by omega, RR.out, own_below OW.out (by first | exact hbl | exact hbl.drew | exact hbl.drew.drew), by first | exact BW.out.trans (hbl.mono BW.out.size) | exact (BW.out.trans (hbl.mono BW.out.size)).drew | exact (BW.out.trans (hbl.mono BW.out.size)).drew.drew⟩
          case measure => simp [intOf]; omega
        · have hq' : ((bn s x.a : Int) != 39) = false := by simp [bne, hq]
          go_wp2_with fail
          go_region
          go_wp2_with fail
          go_roundw
          case rel =>
            have hbl : Below wr.heap.size wr (wr.alloc (.cells #[.int .i64 x.k, .string x.t, .int .i64 (x.a : Int), .int .i64 (x.b : Int)] 29)) := (Below.refl _ _).alloc (Nat.le_refl _) _
            exact ⟨i + 1, x.b, rfl, by go_num, by omega, RR.out, own_below OW.out (by first | exact hbl | exact hbl.drew | exact hbl.drew.drew), by first | exact BW.out.trans (hbl.mono BW.out.size) | exact (BW.out.trans (hbl.mono BW.out.size)).drew | exact (BW.out.trans (hbl.mono BW.out.size)).drew.drew⟩
          case measure => simp [intOf]; omega
      · go_wp2_with fail
        go_ret
        exact ⟨rfl, BW.out⟩
end Go.Proofs.Ytgaganmcfoeejaa
