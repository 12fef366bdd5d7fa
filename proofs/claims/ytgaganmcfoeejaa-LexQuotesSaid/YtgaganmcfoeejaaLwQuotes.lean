/- The walk through the law LexQuotes. -/
import Derived.Test.YtgaganmcfoeejaaLp7
import Derived.Test.YtgaganmcfoeejaaLq3
import Derived.Test.YtgaganmcfoeejaaLsame
namespace Go.Proofs.Ytgaganmcfoeejaa
open Go.RowKit

theorem empty_text {q : ByteArray} : (q.toList == []) = decide (q.size = 0) := by
  rw [ByteArray.toList_eq, Bool.eq_iff_iff, beq_iff_eq, decide_eq_true_eq, ← list_len]
  exact List.length_eq_zero_iff.symm
set_option maxHeartbeats 8000000 in
set_option maxRecDepth 100000 in
theorem lexquotes_any (s : ByteArray) {w : World} {mx : Int} (hmx : w.cell? ⟨0, 0, none⟩ = some (.int .i64 mx)) :
    Calls Try.prog 7 #[.string s] w fun e w' => e = .returned (.bool true) ∧ Below w.heap.size w w' := by
  by_cases hbig : (1024 : Int) < (s.size : Int)
  · go_enter Try.func7, Try.ntmps7
    go_wp2_with fail
    go_ret
    exact ⟨rfl, Below.refl _ _⟩
  have HMX := Lib.hid hmx
  have hw0 := Lib.hid (World.block_lt_of_cell? w _ hmx)
  clear hmx
  have CP := Lib.hid (pquote_any s (by omega))
  have CR := Lib.hid (rquote_any s (by omega))
  have HL := Lib.hid (fun h => lex_quote (s := s) (by omega) h)
  obtain ⟨q, hq⟩ : ∃ q, quoteN s = q := ⟨_, rfl⟩
  rw [hq] at CP CR HL
  clear hq
  go_enter Try.func7, Try.ntmps7
  go_wp2_with fail
  refine (CP.out w).mono ?_
  rintro e w1 ⟨rfl, hb1⟩
  have B1 := Lib.hid hb1
  clear hb1 CP
  go_wp2_with fail
  refine (CR.out w1).mono ?_
  rintro e w2 ⟨rfl, hb2⟩
  have B2 := Lib.hid (B1.out.trans (hb2.mono B1.out.size))
  clear hb2 CR
  by_cases hz : q.size = 0
  · have he : (q.toList == []) = true := by rw [empty_text, decide_eq_true hz]
    go_wp2_with fail
    go_ret
    exact ⟨rfl, B2.out⟩
  · have he : (q.toList == []) = false := by rw [empty_text, decide_eq_false hz]
    have M2 := Lib.hid ((B2.out.cell hw0.out).trans HMX.out)
    obtain ⟨hlex, _, _⟩ := HL.out hz
    have HX := Lib.hid hlex
    clear hz hlex HL
    go_wp2_with fail
    refine (ptokens_any q w2 M2.out).mono ?_
    rintro e w3 ⟨⟨v, p, er, rfl, hq3⟩, hb3⟩
    unfold TokQ at hq3
    rw [HX.out] at hq3
    obtain ⟨rfl, rfl, hown, _, _, _⟩ := hq3
    have B3 := Lib.hid (B2.out.trans (hb3.mono B2.out.size))
    have hown1 : w3.ownsRow w2.heap.size 29 4 v 1 (tkCells [⟨1, s, 0, q.size⟩]) := hown
    obtain ⟨A, c, rfl, hc, _, _, _⟩ := own_open hown1
    obtain ⟨g, rfl, hg, hcell⟩ := tokrow (l := [⟨1, s, 0, q.size⟩]) (i := 0) hown1 rfl (by simp)
    have h0 := hcell 0 (by omega)
    have h1 := hcell 1 (by omega)
    have h2 := hcell 2 (by omega)
    have h3 := hcell 3 (by omega)
    simp [Tk.cells] at h0 h1 h2 h3
    clear hcell hown hown1 hb3
    go_wp2_with fail
    go_ret
    exact ⟨rfl, B3.out⟩
end Go.Proofs.Ytgaganmcfoeejaa
