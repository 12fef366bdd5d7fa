/- The reference's lexer: the tokens of a text. -/
import Derived.Test.YtgoedlbdnmhppaaLex2
import Derived.Test.YtgoedlbdnmhppaaLex3
import Derived.Test.YtgoedlbdnmhppaaTk
import Derived.Deep.DeepCutAuto
import Derived.Deep.CutRange
import Derived.Deep.CutBlock
namespace Go.Proofs.Ytgoedlbdnmhppaa
open Go.RowKit

theorem Try.info_tok : (Try.prog.info? 102).map (fun i => (i.zero, i.size, i.bytes)) = some (some (.agg #[.int .i64 0, .string ⟨#[]⟩, .int .i64 0, .int .i64 0]), 4, 40) := by kernel_rfl
theorem elTok : El Try.prog 98 102 (.agg #[.int .i64 0, .string ⟨#[]⟩, .int .i64 0, .int .i64 0]) 4 40 := by
  obtain ⟨i0, hi, hz0, hz1, hz2⟩ := info_parts Try.info_tok
  exact ⟨Try.underlying98, ⟨i0, hi, hz0, hz1, hz2⟩, rfl, by omega⟩
set_option maxRecDepth 100000 in
set_option maxHeartbeats 4000000 in
theorem tokens_any (s : ByteArray) (w : World) : Calls Try.prog 51 #[.string s] w fun e w' =>
    (∃ (v : Value) (p er : Int), e = .returned (.tuple #[v, .int .i64 p, .int .i64 er]) ∧
      (er = 0 → ∃ n l, w'.ownsRow w.heap.size 102 4 v n (tkCells l) ∧ l.length = n ∧ n ≤ 1000 ∧ s.size ≤ 4096 ∧ ∀ x ∈ l, x.ok s.size)) ∧ Below w.heap.size w w' := by
  have hb : ∀ (i : Nat) (h : i < s.size), (s[i]'h).toNat = bn s i := bn_eq s
  by_cases hlong : 4096 < s.size
  · have hlong' : (4096 : Int) < (s.size : Int) := by omega
    go_enter Try.func51, Try.ntmps51
    go_wp2
    go_ret3
    exact ⟨⟨_, _, _, rfl, fun h => absurd h (by decide)⟩, Below.refl _ _⟩
  have hlong' : ¬ (4096 : Int) < (s.size : Int) := by omega
  go_enter Try.func51, Try.ntmps51
  go_wp2
  go_loopw [5, 6] (fun o iv wr => ∃ k n l, TokRel w.heap.size w s o iv wr k n l) (fun _ iv _ => s.size - (intOf iv).toNat)
  case atStart =>
    exact ⟨0, 0, [], by go_num, ownsRow_empty _ _ _ _ (heap_alloc_new _ _), rfl, by simp, by omega, by omega, (Below.refl _ _).alloc (Nat.le_refl _) _⟩
  case round =>
    obtain ⟨k, n, l, hr⟩ := hrel
    obtain rfl := hr.hi
    have R := Lib.hid hr
    have hk := hr.up
    have hfew := hr.few
    have hsz := hr.below.size
    clear hr
    by_cases h7 : k < s.size
    · have h7' : (k : Int) < (s.size : Int) := by omega
      go_wp2_with fail
      refine (between_any s k _ hk (by omega)).mono ?_
      rintro e w1 ⟨⟨f, ok, rfl, hf, hf'⟩, rfl⟩
      cases ok with
      | false =>
        go_wp2_with fail
        go_ret3
        exact ⟨⟨_, _, _, rfl, fun h => absurd h (by decide)⟩, R.out.below⟩
      | true =>
        by_cases hfs : f < s.size
        · have hfs' : (f : Int) < (s.size : Int) := by omega
          have hfs2 : ((f : Int) == (s.size : Int)) = false := by simp; omega
          go_upto_block 2 with fail
          go_cut [] (fun wx => ∃ (K : Int) (j : Nat), wx = wr.alloc (.cells #[.int .i64 K, .string ⟨#[]⟩, .int .i64 (f : Int), .int .i64 (j : Int)] 102) ∧ 1 ≤ K ∧ K ≤ 6 ∧ j ≤ s.size ∧ (((bn s f : Int) == 39) = false → f < j))
          case first =>
            as_aux_lemma =>
              cases h46 : ((bn s f : Int) == 46) with
              | true =>
                have HV := Lib.hid (show (bn s f : Int) = 46 by simpa using h46)
                by_cases hend : f + 1 = s.size
                · have hend' : ((f : Int) + 1 == (s.size : Int)) = true := by simp; omega
                  go_wp2_with fail
                  go_meet
                  case rel => exact ⟨6, f + 1, by go_num, by omega, by omega, by omega, fun _ => by omega⟩
                · have hend' : ((f : Int) + 1 == (s.size : Int)) = false := by simp; omega
                  have hf1 : f + 1 < s.size := by omega
                  have hf1' : (f : Int) + 1 < (s.size : Int) := by omega
                  have hf2 : ((f : Int) + 1).toNat = f + 1 := by omega
                  go_wp2_with fail
                  refine (blank_any (bn s (f + 1)) _).mono ?_
                  rintro e w1 ⟨⟨bl, rfl⟩, rfl⟩
                  cases bl with
                  | true =>
                    go_wp2_with fail
                    go_meet
                    case rel => exact ⟨6, f + 1, by go_num, by omega, by omega, by omega, fun _ => by omega⟩
                  | false =>
                    cases h37 : ((bn s (f + 1) : Int) == 37) with
                    | true =>
                      go_wp2_with fail
                      go_meet
                      case rel => exact ⟨6, f + 1, by go_num, by omega, by omega, by omega, fun _ => by omega⟩
                    | false =>
                      have hsm : smallB (bn s f) = false := by rw [HV.out]; decide
                      have hgr : greatB (bn s f) = false := by rw [HV.out]; decide
                      have hdi : digitB (bn s f) = false := by rw [HV.out]; decide
                      have hsi : signB (bn s f) = true := by rw [HV.out]; decide +kernel
                      go_wp2_with fail
                      refine (small_any (bn s f) _).mono ?_
                      rintro e w1 ⟨rfl, rfl⟩
                      go_wp2_with fail
                      refine (great_any (bn s f) _).mono ?_
                      rintro e w1 ⟨rfl, rfl⟩
                      go_wp2_with fail
                      refine (digit_any (bn s f) _).mono ?_
                      rintro e w1 ⟨rfl, rfl⟩
                      go_wp2_with fail
                      refine (sign_any (bn s f) _).mono ?_
                      rintro e w1 ⟨rfl, rfl⟩
                      go_wp2_with fail
                      refine (run_any s f 3 _ (by decide) (by omega) (by omega)).mono ?_
                      rintro e w1 ⟨⟨j, rfl, hj1, hj2, hj3⟩, rfl⟩
                      have hj4 := hj3 hfs (by simp [kindB, hsi])
                      clear hj3
                      go_wp2_with fail
                      go_meet
                      case rel => exact ⟨1, j, by go_num, by omega, by omega, by omega, fun _ => by omega⟩
              | false =>
                go_wp2_with fail
                refine (small_any (bn s f) _).mono ?_
                rintro e w1 ⟨rfl, rfl⟩
                cases hsm : smallB (bn s f) with
                | true =>
                  go_wp2_with fail
                  refine (run_any s f 1 _ (by decide) (by omega) (by omega)).mono ?_
                  rintro e w1 ⟨⟨j, rfl, hj1, hj2, hj3⟩, rfl⟩
                  have hj4 := hj3 hfs (by simp [kindB, namedB, hsm])
                  clear hj3
                  go_wp2_with fail
                  go_meet
                  case rel => exact ⟨1, j, by go_num, by omega, by omega, by omega, fun _ => by omega⟩
                | false =>
                  go_wp2_with fail
                  refine (great_any (bn s f) _).mono ?_
                  rintro e w1 ⟨rfl, rfl⟩
                  cases hgr : greatB (bn s f) with
                  | true =>
                    go_wp2_with fail
                    refine (run_any s f 1 _ (by decide) (by omega) (by omega)).mono ?_
                    rintro e w1 ⟨⟨j, rfl, hj1, hj2, hj3⟩, rfl⟩
                    have hj4 := hj3 hfs (by simp [kindB, namedB, hgr])
                    clear hj3
                    go_wp2_with fail
                    go_meet
                    case rel => exact ⟨2, j, by go_num, by omega, by omega, by omega, fun _ => by omega⟩
                  | false =>
                    go_wp2_with fail
                    refine (digit_any (bn s f) _).mono ?_
                    rintro e w1 ⟨rfl, rfl⟩
                    cases hdi : digitB (bn s f) with
                    | true =>
                      go_wp2_with fail
                      refine (run_any s f 2 _ (by decide) (by omega) (by omega)).mono ?_
                      rintro e w1 ⟨⟨j, rfl, hj1, hj2, hj3⟩, rfl⟩
                      have hj4 := hj3 hfs (by simp [kindB, hdi])
                      clear hj3
                      go_wp2_with fail
                      go_meet
                      case rel => exact ⟨3, j, by go_num, by omega, by omega, by omega, fun _ => by omega⟩
                    | false =>
                      go_wp2_with fail
                      refine (sign_any (bn s f) _).mono ?_
                      rintro e w1 ⟨rfl, rfl⟩
                      cases hsi : signB (bn s f) with
                      | true =>
                        go_wp2_with fail
                        refine (run_any s f 3 _ (by decide) (by omega) (by omega)).mono ?_
                        rintro e w1 ⟨⟨j, rfl, hj1, hj2, hj3⟩, rfl⟩
                        have hj4 := hj3 hfs (by simp [kindB, hsi])
                        clear hj3
                        go_wp2_with fail
                        go_meet
                        case rel => exact ⟨1, j, by go_num, by omega, by omega, by omega, fun _ => by omega⟩
                      | false =>
                        cases h33 : ((bn s f : Int) == 33) with
                        | true =>
                          go_wp2_with fail
                          go_meet
                          case rel => exact ⟨1, f + 1, by go_num, by omega, by omega, by omega, fun _ => by omega⟩
                        | false =>
                          cases h59 : ((bn s f : Int) == 59) with
                          | true =>
                            go_wp2_with fail
                            go_meet
                            case rel => exact ⟨1, f + 1, by go_num, by omega, by omega, by omega, fun _ => by omega⟩
                          | false =>
                            cases h39 : ((bn s f : Int) == 39) with
                            | true =>
                              go_wp2_with fail
                              go_meet
                              case rel => exact ⟨1, 0, by go_num, by omega, by omega, by omega, fun h => by rw [h39] at h; cases h⟩
                            | false =>
                              go_wp2_with fail
                              refine (lmark_any (bn s f) _).mono ?_
                              rintro e w1 ⟨⟨mk, rfl⟩, rfl⟩
                              cases mk with
                              | false =>
                                go_wp2_with fail
                                go_ret3
                                exact ⟨⟨_, _, _, rfl, fun h => absurd h (by decide)⟩, R.out.below.alloc hsz _⟩
                              | true =>
                                cases h40 : ((bn s f : Int) == 40) with
                                | false =>
                                  go_wp2_with fail
                                  go_meet
                                  case rel => exact ⟨5, f + 1, by go_num, by omega, by omega, by omega, fun _ => by omega⟩
                                | true =>
                                  obtain ⟨A, cp, rfl, hcp, hA, hcm, hx⟩ := own_open R.out.own
                                  rcases Nat.eq_zero_or_pos n with hn0 | hn0
                                  · subst hn0
                                    go_wp2_with fail
                                    go_meet
                                    case rel => exact ⟨5, f + 1, by go_num, by omega, by omega, by omega, fun _ => by omega⟩
                                  · obtain ⟨m, rfl⟩ : ∃ m, n = m + 1 := ⟨n - 1, by omega⟩
                                    obtain ⟨g, cur, rfl, hg, hh, hcell⟩ := hx hn0
                                    have hlm : m < l.length := by have := R.out.len; omega
                                    have hc0 : wr.cell? ⟨g, m * 4, none⟩ = some (.int .i64 (l[m]'hlm).k) := by
                                      rw [Nat.mul_comm m 4, cell_of_row wr g (4 * m) _ _ _ hh, hcell (4 * m) (by omega)]
                                      simpa [Tk.cells] using tkCells_at l m hlm 0 (by omega)
                                    have hc3 : wr.cell? ⟨g, m * 4 + 3, none⟩ = some (.int .i64 ((l[m]'hlm).b : Int)) := by
                                      rw [Nat.mul_comm m 4, cell_of_row wr g (4 * m + 3) _ _ _ hh, hcell (4 * m + 3) (by omega)]
                                      simpa [Tk.cells] using tkCells_at l m hlm 3 (by omega)
                                    have hgw := heap_lt hh
                                    go_wp2_with fail
                                    all_goals
                                      go_meet
                                      case rel => first | exact ⟨4, f + 1, by go_num, by omega, by omega, by omega, fun _ => by omega⟩ | exact ⟨5, f + 1, by go_num, by omega, by omega, by omega, fun _ => by omega⟩
          case rest =>
            obtain ⟨K, j, rfl, hK, hK', hj, hfj⟩ := hcut
            as_aux_lemma =>
              have hHK := Lib.hid hK
              have hHK' := Lib.hid hK'
              clear hK hK'
              have hlt := Lib.hid R.out.own.lt
              have how := own_open R.out.own
              obtain ⟨A, cp, rfl, hcp, hA, hcm, hx⟩ := how
              clear hx
              by_cases hmany : n = 1000
              · have hmany' : ((n : Int) == 1000) = true := by simp; omega
                go_wp2_with fail
                go_ret3
                exact ⟨⟨_, _, _, rfl, fun h => absurd h (by decide)⟩, R.out.below.alloc hsz _⟩
              · have hmany' : ((n : Int) == 1000) = false := by simp; omega
                cases h39 : ((bn s f : Int) == 39) with
                | true =>
                  clear hfj
                  go_wp2_with fail
                  refine (quoted_any s f _ hfs (by omega)).mono ?_
                  rintro e w1 ⟨⟨t, p, er, rfl, hp, her⟩, hb1⟩
                  have hwr1 : wr.heap.size < w1.heap.size := by have := hb1.size; simp at this; omega
                  have hbx := Lib.hid ((hb1.block wr.heap.size (by simp)).trans (heap_alloc_new _ _))
                  have hB1 := Lib.hid ((R.out.below.alloc hsz _).trans (hb1.mono (by simp; omega)))
                  have ho1 := Lib.hid (own_below (R.out.own.alloc _) hb1)
                  clear hb1
                  obtain ⟨x0, x1, x2, x3⟩ := box4t hbx.out
                  have xf : ∀ i, w1.frozen? ⟨wr.heap.size, i, none⟩ = false := fun i => by simp [World.frozen?, hbx.out]
                  by_cases hez : er = 0
                  · subst hez
                    obtain ⟨hfp, htl⟩ := her rfl
                    clear her
                    have hbx2 := Lib.hid (show ((w1.setCell ⟨wr.heap.size, 1, none⟩ (.string t)).setCell ⟨wr.heap.size, 3, none⟩ (.int .i64 (p : Int))).heap[wr.heap.size]? = some (.cells #[.int .i64 K, .string t, .int .i64 (f : Int), .int .i64 (p : Int)] 102 (0, 0)) by
                      simpa using blk_set (blk_set hbx.out 1 (.string t)) 3 (.int .i64 (p : Int)))
                    have ho2 := Lib.hid (own_keep (w' := (w1.setCell ⟨wr.heap.size, 1, none⟩ (.string t)).setCell ⟨wr.heap.size, 3, none⟩ (.int .i64 (p : Int))) ho1.out fun g hg => by
                      have hne : g ≠ wr.heap.size := by have := (hlt.out g hg).2; omega
                      rw [Below.heap_setCell _ _ _ _ hne, Below.heap_setCell _ _ _ _ hne])
                    have hB2 := Lib.hid ((hB1.out.setCell (p := ⟨wr.heap.size, 1, none⟩) hsz (.string t)).setCell (p := ⟨wr.heap.size, 3, none⟩) hsz (.int .i64 (p : Int)))
                    go_wp2_with (at_builtin; go_must (refine wpList_append_cells _ rfl _ _ _ rfl elTok w.heap.size _ _ _ rfl (ho2.out.alloc _) (some ⟨w1.heap.size, 0, none⟩) 1 1 (Tk.mk K t f p).cells rfl (fun h => by cases h) (Nat.le_refl _) rfl (fun _ => ⟨_, 0, rfl, cells4 ⟨K, _, f, p⟩ _ _ (by simp)⟩) (one4 _) (by omega) (by unfold maxLen; omega) (by simp; omega) ?_); intro v1 w2 hown1 hg1; have z3 := box_after hg1 ((Below.heap_alloc _ _ _ (by simp; omega)).trans hbx2.out) hlt.out)
                    have R1 := Lib.hid (R.out.step (k' := p) (iv' := .int .i64 (p : Int)) (x := ⟨K, t, f, p⟩) rfl hown1 ⟨hHK.out, hHK'.out, htl, hfp, hp⟩ hp (by omega) (hB2.out.alloc (by simp; omega) _) (by simp; omega) hg1)
                    clear hown1 hg1 x0 x1 x2 x3 xf z3
                    go_roundw
                    case rel => exact ⟨_, _, _, R1.out⟩
                    case measure => simp [intOf]; omega
                  · have hez' : (er != 0) = true := by simpa using hez
                    go_wp2_with fail
                    go_ret3
                    exact ⟨⟨_, _, _, rfl, fun h => absurd h hez⟩, hB1.out⟩
                | false =>
                  have hfj' := hfj h39
                  clear hfj
                  have hfj2 : (f : Int) ≤ (j : Int) := by omega
                  have hj2 : (j : Int) ≤ (s.size : Int) := by omega
                  go_wp2_with (at_builtin; go_must (refine wpList_append_cells _ rfl _ _ _ rfl elTok w.heap.size _ _ _ rfl ((R.out.own.alloc _).alloc _) (some ⟨wr.heap.size + 1, 0, none⟩) 1 1 (Tk.mk K (s.extract f j) f j).cells rfl (fun h => by cases h) (Nat.le_refl _) rfl (fun _ => ⟨_, 0, rfl, cells4 ⟨K, _, f, j⟩ _ _ (by simp)⟩) (one4 _) (by omega) (by unfold maxLen; omega) (by simp; omega) ?_); intro v1 w1 hown1 hg1; have z3 := box_after hg1 ((Below.heap_alloc _ _ _ (by simp)).trans (heap_alloc_new _ _)) hlt.out)
                  have R1 := Lib.hid (R.out.step (k' := j) (iv' := .int .i64 (j : Int)) (x := ⟨K, s.extract f j, f, j⟩) rfl hown1 ⟨hHK.out, hHK'.out, by show (s.extract f j).size ≤ s.size; rw [ByteArray.size_extract]; omega, hfj', hj⟩ hj (by omega) ((R.out.below.alloc hsz _).alloc (by simp; omega) _) (by simp; omega) hg1)
                  clear hown1 hg1 z3
                  go_roundw
                  case rel => exact ⟨_, _, _, R1.out⟩
                  case measure => simp [intOf]; omega
        · have hfs2 : ((f : Int) == (s.size : Int)) = true := by simp; omega
          go_wp2_with fail
          go_ret3
          exact ⟨⟨_, _, _, rfl, fun _ => ⟨n, l, R.out.own, R.out.len, R.out.few, by omega, R.out.ok⟩⟩, R.out.below⟩
    · obtain rfl : k = s.size := by omega
      go_wp2
      go_ret3
      exact ⟨⟨_, _, _, rfl, fun _ => ⟨n, l, R.out.own, R.out.len, R.out.few, by omega, R.out.ok⟩⟩, R.out.below⟩
end Go.Proofs.Ytgoedlbdnmhppaa
