/- The reference's lexer: the tokens of a text. -/
import Derived.Test.YtibcpdmeigdgpaaGreatDoorKGm
import Derived.Test.YtibcpdmeigdgpaaGreatDoorKGa
import Derived.Deep.DeepCutAuto
import Derived.Deep.CutRange
import Derived.Deep.CutBlock
namespace Go.Proofs.YtibcpdmeigdgpaaGreatDoor
open Go.RowKit
theorem Tryz.info_tok : (Tryz.prog.info? 83).map (fun i => (i.zero, i.size, i.bytes)) = some (some (.agg #[.int .i64 0, .string ⟨#[]⟩, .int .i64 0, .int .i64 0]), 4, 40) := by kernel_rfl
theorem elTok : El Tryz.prog 63 83 (.agg #[.int .i64 0, .string ⟨#[]⟩, .int .i64 0, .int .i64 0]) 4 40 := by
 obtain ⟨i0, hi, hz0, hz1, hz2⟩ := info_parts Tryz.info_tok
 exact ⟨Tryz.underlying63, ⟨i0, hi, hz0, hz1, hz2⟩, rfl, by omega⟩
structure TokRel (B : Nat) (W : World) (s : ByteArray) (o iv : Value) (wr : World) (k n : Nat) (l : List Tk) : Prop where
 hi : iv = .int .i64 (k : Int)
 own : wr.ownsRow B 83 4 o n (tkCells l)
 len : l.length = n
 ok : ∀ x ∈ l, x.ok s.size
 up : k ≤ s.size
 few : n ≤ 1000
 res : lexN s = toksN s k l
 below : Below B W wr
theorem TokRel.step {B : Nat} {W : World} {s : ByteArray} {o iv : Value} {wr w1 w2 : World} {k n k' : Nat} {l : List Tk} {o' iv' : Value} {x : Tk} (h : TokRel B W s o iv wr k n l)
 (hi' : iv' = .int .i64 (k' : Int)) (hown : w2.ownsRow B 83 4 o' (n + 1) (tkCells l ++ x.cells)) (hx : x.ok s.size) (hk : k' ≤ s.size) (hn : n + 1 ≤ 1000) (hb : Below B W w1) (hB : B ≤ w1.heap.size)
 (hg : w1.grownBy w2 o.ownBlock) (hr : toksN s k l = toksN s k' (l ++ [x])) : TokRel B W s o' iv' w2 k' (n + 1) (l ++ [x]) :=
 ⟨hi', by rw [← tkCells_snoc]; exact hown, by simp [h.len], fun y hy => by rcases List.mem_append.1 hy with h1 | h1; exact h.ok y h1; simp at h1; subst h1; exact hx, hk, hn, h.res.trans hr,
  hb.grown hg hB fun k hk => (h.own.lt k hk).1⟩
def TokQ (s : ByteArray) (B : Nat) (w' : World) (v : Value) (p er : Int) : Prop := match lexN s with
 | .ok l => p = 0 ∧ er = 0 ∧ w'.ownsRow B 83 4 v l.length (tkCells l) ∧ l.length ≤ 1000 ∧ s.size ≤ 4096 ∧ ∀ x ∈ l, x.ok s.size
 | .bad q e => v = .slice none 0 0 ∧ p = (q : Int) ∧ er = e ∧ er ≠ 0
theorem tokQ_bad {s : ByteArray} {B : Nat} {w' : World} {q : Nat} {e : Int} (h : lexN s = .bad q e) (he : e ≠ 0) : TokQ s B w' (.slice none 0 0) (q : Int) e := by
 unfold TokQ; rw [h]; exact ⟨rfl, rfl, rfl, he⟩
theorem tokQ_ok {s : ByteArray} {B : Nat} {w' : World} {v : Value} {l : List Tk} {n : Nat} (h : lexN s = .ok l) (hn : l.length = n) (ho : w'.ownsRow B 83 4 v n (tkCells l)) (hf : n ≤ 1000) (hs : s.size ≤ 4096) (hx : ∀ x ∈ l, x.ok s.size) : TokQ s B w' v 0 0 := by
 subst hn; unfold TokQ; rw [h]; exact ⟨rfl, rfl, ho, hf, hs, hx⟩
theorem quo_bad : ∀ (f : Nat) (s : ByteArray) (i k : Nat) (b : List UInt8) (p : Nat) (e : Int), quoF f s i k b = .bad p e → e ≠ 0
 | 0, _, _, _, _, _, _, h => by unfold quoF at h; injection h with _ h; omega
 | f + 1, s, i, k, b, p, e, h => by
  unfold quoF at h
  repeat' split at h
  all_goals first | exact quo_bad f s i _ _ p e h | (injection h with _ h; omega) | cases h
set_option maxRecDepth 100000 in
set_option maxHeartbeats 4000000 in
theorem rtokens_any (s : ByteArray) (w : World) : Calls Tryz.prog 25 #[.string s] w fun e w' =>
 (∃ (v : Value) (p er : Int), e = .returned (.tuple #[v, .int .i64 p, .int .i64 er]) ∧ TokQ s w.heap.size w' v p er) ∧ Below w.heap.size w w' := by
 have hb : ∀ (i : Nat) (h : i < s.size), (s[i]'h).toNat = bn s i := bn_eq s
 by_cases hlong : 4096 < s.size
 ·have hlong' : (4096 : Int) < (s.size : Int) := by omega
  go_enter Tryz.func25, Tryz.ntmps25
  go_wp2
  go_ret3
  exact ⟨⟨_, _, _, rfl, tokQ_bad (q := 0) (e := 33) (by unfold lexN; rw [if_pos hlong]) (by decide)⟩, Below.refl _ _⟩
 have hlong' : ¬ (4096 : Int) < (s.size : Int) := by omega
 go_enter Tryz.func25, Tryz.ntmps25
 go_wp2
 go_loopw [5, 6] (fun o iv wr => ∃ k n l, TokRel w.heap.size w s o iv wr k n l) (fun _ iv _ => s.size - (intOf iv).toNat)
 case atStart =>
  exact ⟨0, 0, [], by go_num, ownsRow_empty _ _ _ _ (heap_alloc_new _ _), rfl, by simp, by omega, by omega, by unfold lexN; rw [if_neg hlong], (Below.refl _ _).alloc (Nat.le_refl _) _⟩
 case round =>
  obtain ⟨k, n, l, hr⟩ := hrel
  obtain rfl := hr.hi
  have R := Lib.hid hr
  have hk := hr.up
  have hfew := hr.few
  have hsz := hr.below.size
  clear hr
  by_cases h7 : k < s.size
  ·have h7' : (k : Int) < (s.size : Int) := by omega
   go_wp2_with fail
   have hbg := betN_ge (s := s) (j := k) hk
   have HE := Lib.hid (R.out.res.trans (toksN_eq h7))
   refine (between_any s k _ hk (by omega)).mono ?_
   rintro e w1 ⟨rfl, rfl⟩
   obtain ⟨r, hr⟩ : ∃ r, betN s k = r := ⟨_, rfl⟩
   obtain ⟨f, ok⟩ := r
   rw [hr] at hbg HE
   rw [hr]
   obtain ⟨hf, hf'⟩ := hbg
   dsimp only at hf hf'
   simp only [pairV]
   clear hr
   cases ok with
   | false =>
    have HQ := Lib.hid (show lexN s = .bad f 31 from HE.out)
    clear HE
    go_wp2_with fail
    go_ret3
    exact ⟨⟨_, _, _, rfl, tokQ_bad HQ.out (by decide)⟩, R.out.below⟩
   | true =>
    by_cases hfs : f < s.size
    ·have hfs3 : ¬ f = s.size := by omega
     have HE1 := Lib.hid (show lexN s = (match headN s f l.getLast? with
      | none => .bad f 30
      | some (K, j) =>
       if l.length = 1000 then .bad f 34
       else if (bn s f : Int) == 39 then
        match quoN s f (f + 1) [] with
        | .ok t p => toksN s p (l ++ [⟨K, ⟨t.toArray⟩, f, p⟩])
        | .bad p e => .bad p e
       else toksN s j (l ++ [⟨K, s.extract f j, f, j⟩])) by rw [HE.out]; dsimp only; rw [if_neg hfs3]; rfl)
     clear HE hfs3
     have hfs' : (f : Int) < (s.size : Int) := by omega
     have hfs2 : ((f : Int) == (s.size : Int)) = false := by simp; omega
     go_upto_block 2 with fail
     go_cut [] (fun wx => ∃ (K : Int) (j : Nat), wx = wr.alloc (.cells #[.int .i64 K, .string ⟨#[]⟩, .int .i64 (f : Int), .int .i64 (j : Int)] 83) ∧ Hid (headN s f l.getLast? = some (K, j)))
     case first =>
      as_aux_lemma =>
       cases h46 : ((bn s f : Int) == 46) with
       | true =>
        have HV := Lib.hid (show (bn s f : Int) = 46 by simpa using h46)
        by_cases hend : f + 1 = s.size
        ·have hend' : ((f : Int) + 1 == (s.size : Int)) = true := by simp; omega
         go_wp2_with fail
         go_meet
         case rel => exact ⟨6, f + 1, by go_num, Lib.hid (by unfold headN; rw [h46, decide_eq_true hend]; rfl)⟩
        ·have hend' : ((f : Int) + 1 == (s.size : Int)) = false := by simp; omega
         have hf1 : f + 1 < s.size := by omega
         have hf1' : (f : Int) + 1 < (s.size : Int) := by omega
         have hf2 : ((f : Int) + 1).toNat = f + 1 := by omega
         go_wp2_with fail
         refine (blank_any (bn s (f + 1)) _).mono ?_
         rintro e w1 ⟨rfl, rfl⟩
         cases hbl : blankB (bn s (f + 1)) with
         | true =>
          go_wp2_with fail
          go_meet
          case rel => exact ⟨6, f + 1, by go_num, Lib.hid (by unfold headN; rw [h46, decide_eq_false hend, hbl]; rfl)⟩
         | false =>
          cases h37 : ((bn s (f + 1) : Int) == 37) with
          | true =>
           go_wp2_with fail
           go_meet
           case rel => exact ⟨6, f + 1, by go_num, Lib.hid (by unfold headN; rw [h46, decide_eq_false hend, hbl, h37]; rfl)⟩
          | false =>
           have hsm : smallB (bn s f) = false := by rw [HV.out]; decide
           have hgr : greatB (bn s f) = false := by rw [HV.out]; decide
           have hdi : digitB (bn s f) = false := by rw [HV.out]; decide
           have hsi : signB (bn s f) = true := by rw [HV.out]; decide +kernel
           go_wp2_with fail
           refine (small_any (bn s f) _).mono ?_
           rintro e w1 ⟨rfl, rfl⟩
           go_wp2_with fail
           refine (great_any (bn s f) _).mono ?_
           rintro e w1 ⟨rfl, rfl⟩
           go_wp2_with fail
           refine (digit_any (bn s f) _).mono ?_
           rintro e w1 ⟨rfl, rfl⟩
           go_wp2_with fail
           refine (sign_any (bn s f) _).mono ?_
           rintro e w1 ⟨rfl, rfl⟩
           go_wp2_with fail
           refine (run_any s f 3 _ (by decide) (by omega) (by omega)).mono ?_
           rintro e w1 ⟨rfl, rfl⟩
           go_wp2_with fail
           go_meet
           case rel => exact ⟨1, runN 3 s f, by go_num, Lib.hid (by unfold headN; rw [h46, decide_eq_false hend, hbl, h37, hsm, hgr, hdi, hsi]; rfl)⟩
       | false =>
        go_wp2_with fail
        refine (small_any (bn s f) _).mono ?_
        rintro e w1 ⟨rfl, rfl⟩
        cases hsm : smallB (bn s f) with
        | true =>
         go_wp2_with fail
         refine (run_any s f 1 _ (by decide) (by omega) (by omega)).mono ?_
         rintro e w1 ⟨rfl, rfl⟩
         go_wp2_with fail
         go_meet
         case rel => exact ⟨1, runN 1 s f, by go_num, Lib.hid (by unfold headN; rw [h46, hsm]; rfl)⟩
        | false =>
         go_wp2_with fail
         refine (great_any (bn s f) _).mono ?_
         rintro e w1 ⟨rfl, rfl⟩
         cases hgr : greatB (bn s f) with
         | true =>
          go_wp2_with fail
          refine (run_any s f 1 _ (by decide) (by omega) (by omega)).mono ?_
          rintro e w1 ⟨rfl, rfl⟩
          go_wp2_with fail
          go_meet
          case rel => exact ⟨2, runN 1 s f, by go_num, Lib.hid (by unfold headN; rw [h46, hsm, hgr]; rfl)⟩
         | false =>
          go_wp2_with fail
          refine (digit_any (bn s f) _).mono ?_
          rintro e w1 ⟨rfl, rfl⟩
          cases hdi : digitB (bn s f) with
          | true =>
           go_wp2_with fail
           refine (run_any s f 2 _ (by decide) (by omega) (by omega)).mono ?_
           rintro e w1 ⟨rfl, rfl⟩
           go_wp2_with fail
           go_meet
           case rel => exact ⟨3, runN 2 s f, by go_num, Lib.hid (by unfold headN; rw [h46, hsm, hgr, hdi]; rfl)⟩
          | false =>
           go_wp2_with fail
           refine (sign_any (bn s f) _).mono ?_
           rintro e w1 ⟨rfl, rfl⟩
           cases hsi : signB (bn s f) with
           | true =>
            go_wp2_with fail
            refine (run_any s f 3 _ (by decide) (by omega) (by omega)).mono ?_
            rintro e w1 ⟨rfl, rfl⟩
            go_wp2_with fail
            go_meet
            case rel => exact ⟨1, runN 3 s f, by go_num, Lib.hid (by unfold headN; rw [h46, hsm, hgr, hdi, hsi]; rfl)⟩
           | false =>
            cases h33 : ((bn s f : Int) == 33) with
            | true =>
             go_wp2_with fail
             go_meet
             case rel => exact ⟨1, f + 1, by go_num, Lib.hid (by unfold headN; rw [h46, hsm, hgr, hdi, hsi, h33]; rfl)⟩
            | false =>
             cases h59 : ((bn s f : Int) == 59) with
             | true =>
              go_wp2_with fail
              go_meet
              case rel => exact ⟨1, f + 1, by go_num, Lib.hid (by unfold headN; rw [h46, hsm, hgr, hdi, hsi, h33, h59]; rfl)⟩
             | false =>
              cases h39 : ((bn s f : Int) == 39) with
              | true =>
               go_wp2_with fail
               go_meet
               case rel => exact ⟨1, 0, by go_num, Lib.hid (by unfold headN; rw [h46, hsm, hgr, hdi, hsi, h33, h59, h39]; rfl)⟩
              | false =>
               go_wp2_with fail
               refine (lmark_any (bn s f) _).mono ?_
               rintro e w1 ⟨rfl, rfl⟩
               cases hmk : markB (bn s f) with
               | false =>
                have HQ := Lib.hid (show lexN s = .bad f 30 by rw [HE1.out, show headN s f l.getLast? = none by unfold headN; rw [h46, hsm, hgr, hdi, hsi, h33, h59, h39, hmk]; rfl])
                go_wp2_with fail
                go_ret3
                exact ⟨⟨_, _, _, rfl, tokQ_bad HQ.out (by decide)⟩, R.out.below.alloc hsz _⟩
               | true =>
                cases h40 : ((bn s f : Int) == 40) with
                | false =>
                 go_wp2_with fail
                 go_meet
                 case rel => exact ⟨5, f + 1, by go_num, Lib.hid (by unfold headN; rw [h46, hsm, hgr, hdi, hsi, h33, h59, h39, hmk, h40]; rfl)⟩
                | true =>
                 obtain ⟨A, cp, rfl, hcp, hA, hcm, hx⟩ := own_open R.out.own
                 rcases Nat.eq_zero_or_pos n with hn0 | hn0
                 ·subst hn0
                  have HO := Lib.hid (show l.getLast? = none by rw [List.eq_nil_of_length_eq_zero R.out.len]; rfl)
                  go_wp2_with fail
                  go_meet
                  case rel => exact ⟨5, f + 1, by go_num, Lib.hid (by rw [HO.out]; unfold headN; rw [h46, hsm, hgr, hdi, hsi, h33, h59, h39, hmk, h40]; rfl)⟩
                 ·obtain ⟨m, rfl⟩ : ∃ m, n = m + 1 := ⟨n - 1, by omega⟩
                  obtain ⟨g, cur, rfl, hg, hh, hcell⟩ := hx hn0
                  have hlm : m < l.length := by have := R.out.len; omega
                  have hc0 : wr.cell? ⟨g, m * 4, none⟩ = some (.int .i64 (l[m]'hlm).k) := by
                   rw [Nat.mul_comm m 4, cell_of_row wr g (4 * m) _ _ _ hh, hcell (4 * m) (by omega)]
                   simpa [Tk.cells] using tkCells_at l m hlm 0 (by omega)
                  have hc3 : wr.cell? ⟨g, m * 4 + 3, none⟩ = some (.int .i64 ((l[m]'hlm).b : Int)) := by
                   rw [Nat.mul_comm m 4, cell_of_row wr g (4 * m + 3) _ _ _ hh, hcell (4 * m + 3) (by omega)]
                   simpa [Tk.cells] using tkCells_at l m hlm 3 (by omega)
                  have hgw := heap_lt hh
                  have HO := Lib.hid (show l.getLast? = some (l[m]'hlm) by rw [List.getLast?_eq_getElem?, R.out.len]; exact List.getElem?_eq_getElem hlm)
                  cases hk1 : ((l[m]'hlm).k == 1) with
                  | false =>
                   go_wp2_with fail
                   go_meet
                   case rel => exact ⟨5, f + 1, by go_num, Lib.hid (by unfold headN; rw [h46, hsm, hgr, hdi, hsi, h33, h59, h39, hmk, h40, show opens l.getLast? f = false by rw [HO.out]; show ((l[m]'hlm).k == 1 && (l[m]'hlm).b == f) = false; rw [hk1]; rfl]; rfl)⟩
                  | true =>
                   by_cases hbf : (l[m]'hlm).b = f
                   ·have hbf' : (((l[m]'hlm).b : Int) == (f : Int)) = true := by rw [hbf, beq_self_eq_true]
                    have HBF := Lib.hid hbf
                    clear hbf
                    go_wp2_with fail
                    go_meet
                    case rel => exact ⟨4, f + 1, by go_num, Lib.hid (by unfold headN; rw [h46, hsm, hgr, hdi, hsi, h33, h59, h39, hmk, h40, show opens l.getLast? f = true by rw [HO.out]; show ((l[m]'hlm).k == 1 && (l[m]'hlm).b == f) = true; rw [hk1, HBF.out, beq_self_eq_true]; rfl]; rfl)⟩
                   ·have hbf' : (((l[m]'hlm).b : Int) == (f : Int)) = false := beq_eq_false_iff_ne.mpr fun h => hbf (by omega)
                    have HBF := Lib.hid hbf
                    clear hbf
                    go_wp2_with fail
                    go_meet
                    case rel => exact ⟨5, f + 1, by go_num, Lib.hid (by unfold headN; rw [h46, hsm, hgr, hdi, hsi, h33, h59, h39, hmk, h40, show opens l.getLast? f = false by rw [HO.out]; show ((l[m]'hlm).k == 1 && (l[m]'hlm).b == f) = false; rw [hk1, beq_eq_false_iff_ne.mpr HBF.out]; rfl]; rfl)⟩
     case rest =>
      obtain ⟨K, j, rfl, hhd⟩ := hcut
      have HK2 := Lib.hid (headN_kind hhd.out)
      have HE2 := Lib.hid (show lexN s = (if l.length = 1000 then .bad f 34
       else if (bn s f : Int) == 39 then
        match quoN s f (f + 1) [] with
        | .ok t p => toksN s p (l ++ [⟨K, ⟨t.toArray⟩, f, p⟩])
        | .bad p e => .bad p e
       else toksN s j (l ++ [⟨K, s.extract f j, f, j⟩])) by rw [HE1.out, hhd.out])
      have HR0 := Lib.hid R.out.res
      clear HE1
      as_aux_lemma =>
       have hlt := Lib.hid R.out.own.lt
       have how := own_open R.out.own
       obtain ⟨A, cp, rfl, hcp, hA, hcm, hx⟩ := how
       clear hx
       by_cases hmany : n = 1000
       ·have hmany' : ((n : Int) == 1000) = true := by simp; omega
        have HQ := Lib.hid (show lexN s = .bad f 34 by rw [HE2.out, R.out.len, if_pos hmany])
        go_wp2_with fail
        go_ret3
        exact ⟨⟨_, _, _, rfl, tokQ_bad HQ.out (by decide)⟩, R.out.below.alloc hsz _⟩
       ·have hmany' : ((n : Int) == 1000) = false := by simp; omega
        cases h39 : ((bn s f : Int) == 39) with
        | true =>
         have HE3 := Lib.hid (show lexN s = (match quoN s f (f + 1) [] with
          | .ok t p => toksN s p (l ++ [⟨K, ⟨t.toArray⟩, f, p⟩])
          | .bad p e => .bad p e) by rw [HE2.out, R.out.len, if_neg hmany, h39]; rfl)
         clear HE2
         obtain ⟨qr, hqr⟩ : ∃ qr, quoN s f (f + 1) [] = qr := ⟨_, rfl⟩
         have HQR := Lib.hid hqr
         rw [hqr] at HE3
         go_wp2_with fail
         refine (quoted_any s f _ hfs (by omega)).mono ?_
         rintro e w1 ⟨rfl, hb1⟩
         rw [hqr]
         clear hqr
         have hwr1 : wr.heap.size < w1.heap.size := by have := hb1.size; simp at this; omega
         have hbx := Lib.hid ((hb1.block wr.heap.size (by simp)).trans (heap_alloc_new _ _))
         have hB1 := Lib.hid ((R.out.below.alloc hsz _).trans (hb1.mono (by simp; omega)))
         have ho1 := Lib.hid (own_below (R.out.own.alloc _) hb1)
         clear hb1
         obtain ⟨x0, x1, x2, x3⟩ := box4t hbx.out
         have xf : ∀ i, w1.frozen? ⟨wr.heap.size, i, none⟩ = false := fun i => by simp [World.frozen?, hbx.out]
         cases qr with
         | ok t0 p =>
          simp only [quoV]
          obtain ⟨hfp, hp, htl, _⟩ := quoF_ok _ _ _ _ _ _ _ (by simp) (Nat.zero_le _) HQR.out
          obtain ⟨t, ht⟩ : ∃ t : ByteArray, t = ⟨t0.toArray⟩ := ⟨_, rfl⟩
          have htl : t.size ≤ s.size := by rw [ht]; show t0.toArray.size ≤ _; simp; omega
          have hfp : f < p := by omega
          have HRES := Lib.hid (show toksN s k l = toksN s p (l ++ [⟨K, t, f, p⟩]) by rw [← HR0.out, HE3.out, ht])
          rw [← ht]
          clear HE3 ht
          have hbx2 := Lib.hid (show ((w1.setCell ⟨wr.heap.size, 1, none⟩ (.string t)).setCell ⟨wr.heap.size, 3, none⟩ (.int .i64 (p : Int))).heap[wr.heap.size]? = some (.cells #[.int .i64 K, .string t, .int .i64 (f : Int), .int .i64 (p : Int)] 83 (0, 0)) by
           simpa using blk_set (blk_set hbx.out 1 (.string t)) 3 (.int .i64 (p : Int)))
          have ho2 := Lib.hid (own_keep (w' := (w1.setCell ⟨wr.heap.size, 1, none⟩ (.string t)).setCell ⟨wr.heap.size, 3, none⟩ (.int .i64 (p : Int))) ho1.out fun g hg => by
           have hne : g ≠ wr.heap.size := by have := (hlt.out g hg).2; omega
           rw [Below.heap_setCell _ _ _ _ hne, Below.heap_setCell _ _ _ _ hne])
          have hB2 := Lib.hid ((hB1.out.setCell (p := ⟨wr.heap.size, 1, none⟩) hsz (.string t)).setCell (p := ⟨wr.heap.size, 3, none⟩) hsz (.int .i64 (p : Int)))
          go_wp2_with (at_builtin; go_must (refine wpList_append_cells _ rfl _ _ _ rfl elTok w.heap.size _ _ _ rfl (ho2.out.alloc _) (some ⟨w1.heap.size, 0, none⟩) 1 1 (Tk.mk K t f p).cells rfl (fun h => by cases h) (Nat.le_refl _) rfl (fun _ => ⟨_, 0, rfl, cells4 ⟨K, _, f, p⟩ _ _ (by simp)⟩) (one4 _) (by omega) (by unfold maxLen; omega) (by simp; omega) ?_); intro v1 w2 hown1 hg1; have z3 := box_after hg1 ((Below.heap_alloc _ _ _ (by simp; omega)).trans hbx2.out) hlt.out)
          have R1 := Lib.hid (R.out.step (k' := p) (iv' := .int .i64 (p : Int)) (x := ⟨K, t, f, p⟩) rfl hown1 ⟨HK2.out.1, HK2.out.2, htl, hfp, hp⟩ hp (by omega) (hB2.out.alloc (by simp; omega) _) (by simp; omega) hg1 HRES.out)
          clear hown1 hg1 x0 x1 x2 x3 xf z3
          go_roundw
          case rel => exact ⟨_, _, _, R1.out⟩
          case measure => simp [intOf]; omega
         | bad p e =>
          simp only [quoV]
          have hez := quo_bad _ _ _ _ _ _ _ HQR.out
          have hez' : (e != 0) = true := by simpa using hez
          have HEZ := Lib.hid hez
          clear hez
          go_wp2_with fail
          go_ret3
          exact ⟨⟨_, _, _, rfl, tokQ_bad HE3.out HEZ.out⟩, hB1.out⟩
        | false =>
         obtain ⟨_, _, hfj', hj⟩ := headN_ok hhd.out hfs h39
         have HRES := Lib.hid (show toksN s k l = toksN s j (l ++ [⟨K, s.extract f j, f, j⟩]) by rw [← HR0.out, HE2.out, R.out.len, if_neg hmany, h39]; rfl)
         clear HE2
         have hfj2 : (f : Int) ≤ (j : Int) := by omega
         have hj2 : (j : Int) ≤ (s.size : Int) := by omega
         go_wp2_with (at_builtin; go_must (refine wpList_append_cells _ rfl _ _ _ rfl elTok w.heap.size _ _ _ rfl ((R.out.own.alloc _).alloc _) (some ⟨wr.heap.size + 1, 0, none⟩) 1 1 (Tk.mk K (s.extract f j) f j).cells rfl (fun h => by cases h) (Nat.le_refl _) rfl (fun _ => ⟨_, 0, rfl, cells4 ⟨K, _, f, j⟩ _ _ (by simp)⟩) (one4 _) (by omega) (by unfold maxLen; omega) (by simp; omega) ?_); intro v1 w1 hown1 hg1; have z3 := box_after hg1 ((Below.heap_alloc _ _ _ (by simp)).trans (heap_alloc_new _ _)) hlt.out)
         have R1 := Lib.hid (R.out.step (k' := j) (iv' := .int .i64 (j : Int)) (x := ⟨K, s.extract f j, f, j⟩) rfl hown1 ⟨HK2.out.1, HK2.out.2, by show (s.extract f j).size ≤ s.size; rw [ByteArray.size_extract]; omega, hfj', hj⟩ hj (by omega) ((R.out.below.alloc hsz _).alloc (by simp; omega) _) (by simp; omega) hg1 HRES.out)
         clear hown1 hg1 z3
         go_roundw
         case rel => exact ⟨_, _, _, R1.out⟩
         case measure => simp [intOf]; omega
    ·have hfs2 : ((f : Int) == (s.size : Int)) = true := by simp; omega
     have HQ := Lib.hid (show lexN s = .ok l by rw [HE.out]; dsimp only; rw [if_pos (show f = s.size by omega)])
     clear HE
     go_wp2_with fail
     go_ret3
     exact ⟨⟨_, _, _, rfl, tokQ_ok HQ.out R.out.len R.out.own R.out.few (by omega) R.out.ok⟩, R.out.below⟩
  ·obtain rfl : k = s.size := by omega
   have HQ := Lib.hid (R.out.res.trans (toksN_end (Nat.le_refl _)))
   go_wp2
   go_ret3
   exact ⟨⟨_, _, _, rfl, tokQ_ok HQ.out R.out.len R.out.own R.out.few (by omega) R.out.ok⟩, R.out.below⟩
end Go.Proofs.YtibcpdmeigdgpaaGreatDoor
