/- The walk through the law StoreBack. -/
import Derived.Test.YtgoedlbdnmhppaaStScriptM
namespace Go.Proofs.Ytgoedlbdnmhppaa
open Go.RowKit
attribute [local go_sem ↓] Go.wp_at_zero Go.wp_at_succ
section
variable {B : Nat} {wr w1 : World} {sb rb : Nat} {C : List CV} {R : List (CV × Nat)} {p : PV} {L : Bs} {As : List T} {Hs : List MK}
theorem pmark2x (F : LS B wr sb rb C R p L As Hs) (hM : Hs.length ≤ 1000000) (h1 : SM w1 B sb C R (Hs.map MK.m ++ [(R.length, C.length)])) (f1 : SF B wr w1) (W : World) (hW : Below w1.heap.size w1 W) :
    Calls Try.prog 11 #[.pointer (some ⟨rb, 0, none⟩)] W fun e w' => e = .returned (.int .i64 (Hs.length : Int)) ∧ LS B w' sb rb C R p L As (Hs ++ [⟨R.length, C.length, p, C, L, As⟩]) ∧ Below B wr w' ∧ Kb rb wr w' := by
  have f2 := f1.then F.size.1 hW
  refine (rmark9_any (F.rm.sf f2) (by simpa using hM)).mono fun _ _ ⟨g1, g2, g3⟩ => ⟨by rw [g1]; simp, F.mark (h1.below hW) f2 g2 g3, f2.low.trans g3.low, Kb.trans (SF.kb f2) (RF.kb g3)⟩
end
theorem Steps.below {w w' : World} {A : Option Addr} {m c : Nat} {z : Nat → Int × Int × ByteArray} (h : Steps w A m c z) (hb : Below w.heap.size w w') : Steps w' A m c z :=
  ⟨h.cap, h.rng, h.few, fun h0 => by
    obtain ⟨b, off, e, hl, hc⟩ := h.at_ h0
    exact ⟨b, off, e, Nat.lt_of_lt_of_le hl hb.size, fun i hi => ⟨(hb.cell (p := ⟨b, off + i * 3, none⟩) hl).trans (hc i hi).1, (hb.cell (p := ⟨b, off + i * 3 + 1, none⟩) hl).trans (hc i hi).2.1, (hb.cell (p := ⟨b, off + i * 3 + 2, none⟩) hl).trans (hc i hi).2.2⟩⟩⟩
/-- The box of a state that is kept. -/
def Kept (w : World) (kb : Nat) (q : PV) : Prop := w.heap[kb]? = some (.cells #[.int .i64 (q.n : Int), .slice q.LA q.ln q.lc, .slice q.AA q.am q.ac, .slice none 0 0] 35 (0, 0))
theorem Kept.kb {w w' : World} {kb rb : Nat} {q : PV} (h : Kept w kb q) (hk : Kb rb w w') (hne : kb ≠ rb) : Kept w' kb q := hk kb _ h (notSt_of (by decide)) fun _ _ _ e => by injection e with _ e; subst e; exact ⟨fun _ => hne, by decide⟩
theorem Kept.below {w w' : World} {kb : Nat} {q : PV} (h : Kept w kb q) (hb : Below w.heap.size w w') : Kept w' kb q := (hb.block kb (heap_lt h)).trans h
theorem Kept.rm {w : World} {kb : Nat} {q : PV} (h : Kept w kb q) : RM w 0 kb q [] := ⟨⟨none, 0, h, World.ownsRow_nil _ _ _ _⟩, Nat.zero_le _⟩
/-- Behind the Undo, the store and what was kept are twins. -/
theorem undo_twin {B : Nat} {wr w1 : World} {sb rb kb k : Nat} {C : List CV} {R : List (CV × Nat)} {p : PV} {L : Bs} {As : List T} {Hs : List MK} {g : MK} (F : LS B wr sb rb C R p L As Hs) (hk : Hs[k]? = some g) (h1 : SM w1 B sb ((backC C (R.drop g.r)).take g.v) (R.take g.r) ((Hs.map MK.m).take (k + 1))) (f1 : SF B wr w1) (hx : Kept wr kb g.q) (hne : kb ≠ rb) :
    Twin B 0 w1 sb kb g.C (R.take g.r) ((Hs.take (k + 1)).map MK.m) g.q [] g.L g.A := by
  obtain ⟨a, b⟩ := F.undoP hk h1 f1
  exact ⟨a, (hx.kb (SF.kb f1) hne).rm, b.pa, b.cl, b.at_⟩
set_option maxRecDepth 100000 in
set_option maxHeartbeats 16000000 in
theorem stback_any {w : World} {A1 A2 : Option Addr} {m1 c1 m2 c2 : Nat} {za zb : Nat → Int × Int × ByteArray} (ha : Steps w A1 m1 c1 za) (hb : Steps w A2 m2 c2 zb) :
    Calls Try.prog 6 #[.slice A1 m1 c1, .slice A2 m2 c2] w fun e w' => e = .returned (.bool true) ∧ Below w.heap.size w w' := by
  have HZA := Lib.hid ha
  have HZB := Lib.hid hb
  have hmc1 := ha.cap
  have hmc2 := hb.cap
  have CHV := Lib.hid (heavy_any ha)
  clear ha hb
  go_enter Try.func6, Try.ntmps6
  go_wp2_with fail
  refine CHV.out.mono ?_
  rintro e w0 ⟨⟨b, rfl, hb60⟩, h0⟩
  have B0 := Lib.hid h0
  have HM := Lib.hid hb60
  clear h0 hb60 CHV
  cases b
  case true =>
    go_wp2_with fail
    go_ret
    exact ⟨rfl, B0.out⟩
  have hm1 : m1 ≤ 60 := HM.out rfl
  have HZB0 := Lib.hid (HZB.out.below B0.out)
  have CHW := Lib.hid (heavy_any HZB0.out)
  clear HM
  go_wp2_with fail
  refine CHW.out.mono ?_
  rintro e w00 ⟨⟨b, rfl, hb60⟩, h0⟩
  have B00 := Lib.hid (B0.out.trans (h0.mono B0.out.size))
  have HM := Lib.hid hb60
  clear h0 hb60 CHW HZB0
  cases b
  case true =>
    go_wp2_with fail
    go_ret
    exact ⟨rfl, B00.out⟩
  have hm2 : m2 ≤ 60 := HM.out rfl
  clear HM B0
  go_wp2_with fail
  refine (snew_any w00).mono ?_
  rintro e w1 ⟨rfl, hs1, h1⟩
  have S1 := Lib.hid hs1
  have H1 := Lib.hid h1
  clear hs1 h1
  go_wp2_with fail
  refine (rnew9_any w1).mono ?_
  rintro e w2 ⟨rfl, hr2, h2⟩
  obtain ⟨rb, hrb⟩ : ∃ rb, rb = w1.heap.size := ⟨_, rfl⟩
  have F2 := Lib.hid (show LS w00.heap.size w2 w00.heap.size rb [] [] PV.zero [] [] [] from LS.start (w1 := w1) S1.out (by rw [hrb]; exact ⟨⟨hr2.ex.choose, hr2.ex.choose_spec.choose, hr2.ex.choose_spec.choose_spec.1, ownsRow_more hr2.ex.choose_spec.choose_spec.2 H1.out.size⟩, Nat.le_trans H1.out.size hr2.ge⟩) (RF.below H1.out.size h2))
  have B2 := Lib.hid (B00.out.trans ((H1.out.trans (h2.mono H1.out.size)).mono B00.out.size))
  rw [← hrb]
  clear hr2 h2 S1 H1 hrb
  go_wp2_with fail
  refine (pfresh1 F2.out (by simp) 5 _ (Below.refl _ _)).mono ?_
  rintro e w3 ⟨rfl, hs3, hf3⟩
  have S3 := Lib.hid hs3
  have E3 := Lib.hid hf3
  clear hs3 hf3
  go_wp2_with fail
  refine (pfresh2 F2.out (by simp) 5 S3.out E3.out _ (Below.refl _ _)).mono ?_
  rintro e w4 ⟨rfl, p4, hF4, hb4⟩
  obtain ⟨C0, hC0⟩ : ∃ C0, C0 = ([] ++ List.replicate (fresh 5) CV.zero : List CV) := ⟨_, rfl⟩
  obtain ⟨As0, hAs0⟩ : ∃ As0, As0 = ([] ++ List.replicate (fresh 5) noneT : List T) := ⟨_, rfl⟩
  have hl5 : C0.length ≤ 5 := by rw [hC0, show fresh 5 = 5 by decide]; simp
  rw [← hC0, ← hAs0] at hF4
  have F4 := Lib.hid hF4
  have B4 := Lib.hid (B2.out.trans (hb4.mono B00.out.size))
  clear hF4 hb4 F2 B2 S3 E3 hC0 hAs0
  go_wp2_with fail
  go_loopw [7] (fun iv wr => ∃ (i : Nat) (C : List CV) (R : List (CV × Nat)) (p : PV) (L : Bs) (As : List T) (Hs : List MK), iv = .int .i64 (i : Int) ∧ i ≤ m1 ∧ C.length ≤ 5100 ∧ R.length ≤ 2000 * i ∧ Hs.length ≤ i ∧ LS w00.heap.size wr w00.heap.size rb C R p L As Hs ∧ Below w.heap.size w wr) (fun iv _ => m1 - (intOf iv).toNat)
  case atStart => exact ⟨0, C0, [], p4, [], As0, [], rfl, Nat.zero_le _, by omega, by simp, by simp, F4.out, B4.out⟩
  case round =>
    clear F4 B4 hl5
    obtain ⟨i, C, R, p, L, As, Hs, rfl, hi, hC, hR, hH, hf, hb⟩ := hrel
    have F := Lib.hid hf
    have HB := Lib.hid hb
    clear hf hb
    by_cases him : (i : Int) < (m1 : Int)
    · obtain ⟨b, off, rfl, hbl, hcz⟩ := HZA.out.at_ (by omega)
      obtain ⟨z0, z1, z2⟩ := hcz i (by omega)
      obtain ⟨k, hk⟩ : ∃ k, k = (za i).1 := ⟨_, rfl⟩
      obtain ⟨n, hn⟩ : ∃ n, n = (za i).2.1 := ⟨_, rfl⟩
      obtain ⟨s, hs⟩ : ∃ s, s = (za i).2.2 := ⟨_, rfl⟩
      rw [← hk] at z0
      rw [← hn] at z1
      rw [← hs] at z2
      have y0 := (HB.out.cell (p := ⟨b, off + i * 3, none⟩) hbl).trans z0
      have y1 := (HB.out.cell (p := ⟨b, off + i * 3 + 1, none⟩) hbl).trans z1
      have y2 := (HB.out.cell (p := ⟨b, off + i * 3 + 2, none⟩) hbl).trans z2
      have hbl' := Nat.lt_of_lt_of_le hbl HB.out.size
      obtain ⟨r0, r1⟩ := F.out.boxN
      have CST := Lib.hid (step_any F.out (by omega) (by omega) (by omega) k n s)
      clear hcz z0 z1 z2 hk hn hs hbl
      cases hk0 : (k == 0)
      · have hkn : k ≠ 0 := fun e => by subst e; simp at hk0
        have HKN := Lib.hid hkn
        clear hkn
        go_wp2_with fail
        refine CST.out.mono ?_
        rintro e w6 ⟨rfl, C', R', p', L', As', Hs', q1, q2, q3, q4, _, hF6, hb6, _, _⟩
        have F6 := Lib.hid hF6
        have B6 := Lib.hid (HB.out.trans (hb6.mono B00.out.size))
        have hC' : C'.length ≤ 5100 := by have := q2 HKN.out; omega
        have hR' : R'.length ≤ 2000 * (i + 1) := by omega
        have hH' : Hs'.length ≤ i + 1 := by omega
        clear hF6 hb6 q1 q2 q3 q4 CST y0 y1 y2 r0 r1
        go_wp2_with fail
        go_roundw
        case rel => exact ⟨i + 1, C', R', p', L', As', Hs', by go_num, by omega, hC', hR', hH', F6.out, B6.out⟩
        case measure => simp only [intOf]; omega
      · by_cases hbig : (C.length : Int) > 4096
        · go_wp2_with fail
          go_ret
          exact ⟨rfl, HB.out⟩
        · have HKN := Lib.hid hbig
          go_wp2_with fail
          refine CST.out.mono ?_
          rintro e w6 ⟨rfl, C', R', p', L', As', Hs', q1, q2, q3, q4, _, hF6, hb6, _, _⟩
          have F6 := Lib.hid hF6
          have B6 := Lib.hid (HB.out.trans (hb6.mono B00.out.size))
          have hC' : C'.length ≤ 5100 := by have := HKN.out; omega
          have hR' : R'.length ≤ 2000 * (i + 1) := by omega
          have hH' : Hs'.length ≤ i + 1 := by omega
          clear hF6 hb6 q1 q2 q3 q4 CST y0 y1 y2 r0 r1
          go_wp2_with fail
          go_roundw
          case rel => exact ⟨i + 1, C', R', p', L', As', Hs', by go_num, by omega, hC', hR', hH', F6.out, B6.out⟩
          case measure => simp only [intOf]; omega
    · have CG := Lib.hid (lgreat_any F.out.rm F.out.pa)
      go_wp2_with fail
      refine CG.out.mono ?_
      rintro e w7 ⟨⟨b7, rfl⟩, h7⟩
      have F7 := Lib.hid (F.out.below h7)
      have B7 := Lib.hid (HB.out.trans (h7.mono HB.out.size))
      clear h7 CG
      cases b7
      case true =>
        go_wp2_with fail
        go_ret
        exact ⟨rfl, B7.out⟩
      go_wp2_with fail
      refine (pmark1 F7.out (by omega) _ (Below.refl _ _)).mono ?_
      rintro e w8 ⟨rfl, hs8, hf8⟩
      have S8 := Lib.hid hs8
      have E8 := Lib.hid hf8
      clear hs8 hf8
      go_wp2_with fail
      refine (pmark2x F7.out (by omega) S8.out E8.out _ (Below.refl _ _)).mono ?_
      rintro e w9 ⟨rfl, hF9, hb9, _⟩
      obtain ⟨g, hg⟩ : ∃ g : MK, g = ⟨R.length, C.length, p, C, L, As⟩ := ⟨_, rfl⟩
      have hgq : g.q = p := by rw [hg]
      obtain ⟨mk, hmk⟩ : ∃ mk, mk = Hs.length := ⟨_, rfl⟩
      have hget : (Hs ++ [g])[mk]? = some g := by rw [hmk]; simp
      have hHl : (Hs ++ [g]).length ≤ 61 := by simp; omega
      have hmk6 : mk ≤ 60 := by omega
      rw [← hg] at hF9
      rw [← hmk]
      obtain ⟨Hn, hHn⟩ : ∃ Hn, Hn = Hs ++ [g] := ⟨_, rfl⟩
      rw [← hHn] at hF9 hget hHl
      have F9 := Lib.hid hF9
      have B9 := Lib.hid (B7.out.trans (hb9.mono B00.out.size))
      have HGET := Lib.hid hget
      have HGQ := Lib.hid hgq
      obtain ⟨_, _, k0, k1, k2, _, _, kl, _, _⟩ := F9.out.rm.box
      clear hF9 hb9 F7 B7 F HB S8 E8 hg hmk hget hgq hHn
      go_wp2_with fail
      have BK := Lib.hid (belS (Below.refl w9.heap.size w9) (Obj.cells #[.int .i64 (p.n : Int), .slice p.LA p.ln p.lc, .slice p.AA p.am p.ac, .slice none 0 0] 35))
      have XK := Lib.hid (show Kept (w9.alloc (Obj.cells #[.int .i64 (p.n : Int), .slice p.LA p.ln p.lc, .slice p.AA p.am p.ac, .slice none 0 0] 35)) w9.heap.size g.q by rw [HGQ.out]; exact heap_alloc_new _ _)
      have HNE : w9.heap.size ≠ rb := by omega
      have F10 := Lib.hid (F9.out.below BK.out)
      have B10 := Lib.hid (B9.out.trans (BK.out.mono B9.out.size))
      have HNE := Lib.hid HNE
      obtain ⟨kb, hkb⟩ : ∃ kb, kb = w9.heap.size := ⟨_, rfl⟩
      rw [← hkb] at XK HNE
      rw [← hkb]
      clear k0 k1 k2 kl BK F9 B9 HGQ hkb
      go_loopw [10] (fun iv wr => ∃ (i : Nat) (C : List CV) (R : List (CV × Nat)) (p : PV) (L : Bs) (As : List T) (Hs : List MK), iv = .int .i64 (i : Int) ∧ i ≤ m2 ∧ C.length ≤ 5100 ∧ R.length ≤ 130000 + 2000 * i ∧ Hs.length ≤ 61 + i ∧ LS w00.heap.size wr w00.heap.size rb C R p L As Hs ∧ Hs[mk]? = some g ∧ Kept wr kb g.q ∧ Below w.heap.size w wr) (fun iv _ => m2 - (intOf iv).toNat)
      case atStart => exact ⟨0, C, R, p, L, As, Hn, rfl, Nat.zero_le _, hC, by omega, by omega, F10.out, HGET.out, XK.out, B10.out⟩
      case round =>
        clear F10 B10 XK HGET
        clear hC hR hH hHl hi
        obtain ⟨i, C, R, p, L, As, Hs, rfl, hi, hC, hR, hH, hf, hget, hkp, hb⟩ := hrel
        have F := Lib.hid hf
        have HB := Lib.hid hb
        have HGET := Lib.hid hget
        have HKP := Lib.hid hkp
        clear hf hb hget hkp
        by_cases him : (i : Int) < (m2 : Int)
        · obtain ⟨b, off, rfl, hbl, hcz⟩ := HZB.out.at_ (by omega)
          obtain ⟨z0, z1, z2⟩ := hcz i (by omega)
          obtain ⟨k, hk⟩ : ∃ k, k = (zb i).1 := ⟨_, rfl⟩
          obtain ⟨n, hn⟩ : ∃ n, n = (zb i).2.1 := ⟨_, rfl⟩
          obtain ⟨s, hs⟩ : ∃ s, s = (zb i).2.2 := ⟨_, rfl⟩
          rw [← hk] at z0
          rw [← hn] at z1
          rw [← hs] at z2
          have y0 := (HB.out.cell (p := ⟨b, off + i * 3, none⟩) hbl).trans z0
          have y1 := (HB.out.cell (p := ⟨b, off + i * 3 + 1, none⟩) hbl).trans z1
          have y2 := (HB.out.cell (p := ⟨b, off + i * 3 + 2, none⟩) hbl).trans z2
          have hbl' := Nat.lt_of_lt_of_le hbl HB.out.size
          obtain ⟨r0, r1⟩ := F.out.boxN
          have CST := Lib.hid (step_any F.out (by omega) (by omega) (by omega) k n s)
          clear hcz z0 z1 z2 hk hn hs hbl
          cases hk4 : (k == 4)
          · have HK4 := Lib.hid (show k ≠ 4 from fun e => by subst e; simp at hk4)
            cases hk0 : (k == 0)
            · have HKN := Lib.hid (show k ≠ 0 from fun e => by subst e; simp at hk0)
              go_wp2_with fail
              refine CST.out.mono ?_
              rintro e w6 ⟨rfl, C', R', p', L', As', Hs', q1, q2, q3, q4, q5, hF6, hb6, hkb6, _⟩
              have F6 := Lib.hid hF6
              have B6 := Lib.hid (HB.out.trans (hb6.mono B00.out.size))
              have hC' : C'.length ≤ 5100 := by have := q2 HKN.out; omega
              have hR' : R'.length ≤ 130000 + 2000 * (i + 1) := by omega
              have hH' : Hs'.length ≤ 61 + (i + 1) := by omega
              have G6 := Lib.hid (q5 mk g (fun e => absurd e HK4.out) HGET.out)
              have K6 := Lib.hid (HKP.out.kb hkb6 HNE.out)
              clear hF6 hb6 q1 q2 q3 q4 q5 hkb6 CST y0 y1 y2 r0 r1
              go_wp2_with fail
              go_roundw
              case rel => exact ⟨i + 1, C', R', p', L', As', Hs', by go_num, by omega, hC', hR', hH', F6.out, G6.out, K6.out, B6.out⟩
              case measure => simp only [intOf]; omega
            · by_cases hbig : (C.length : Int) > 4096
              · go_wp2_with fail
                go_roundw
                case rel => exact ⟨i + 1, C, R, p, L, As, Hs, by go_num, by omega, hC, by omega, by omega, F.out, HGET.out, HKP.out, HB.out⟩
                case measure => simp only [intOf]; omega
              · have HKN := Lib.hid hbig
                go_wp2_with fail
                refine CST.out.mono ?_
                rintro e w6 ⟨rfl, C', R', p', L', As', Hs', q1, q2, q3, q4, q5, hF6, hb6, hkb6, _⟩
                have F6 := Lib.hid hF6
                have B6 := Lib.hid (HB.out.trans (hb6.mono B00.out.size))
                have hC' : C'.length ≤ 5100 := by have := HKN.out; omega
                have hR' : R'.length ≤ 130000 + 2000 * (i + 1) := by omega
                have hH' : Hs'.length ≤ 61 + (i + 1) := by omega
                have G6 := Lib.hid (q5 mk g (fun e => absurd e HK4.out) HGET.out)
                have K6 := Lib.hid (HKP.out.kb hkb6 HNE.out)
                clear hF6 hb6 q1 q2 q3 q4 q5 hkb6 CST y0 y1 y2 r0 r1
                go_wp2_with fail
                go_roundw
                case rel => exact ⟨i + 1, C', R', p', L', As', Hs', by go_num, by omega, hC', hR', hH', F6.out, G6.out, K6.out, B6.out⟩
                case measure => simp only [intOf]; omega
          · have HK4 := Lib.hid (show k = 4 from by simpa using hk4)
            by_cases hnm : n ≤ (mk : Int)
            · go_wp2_with fail
              go_roundw
              case rel => exact ⟨i + 1, C, R, p, L, As, Hs, by go_num, by omega, hC, by omega, by omega, F.out, HGET.out, HKP.out, HB.out⟩
              case measure => simp only [intOf]; omega
            · have HNM := Lib.hid hnm
              have hk0 : (k == 0) = false := by rw [HK4.out]; rfl
              have HKN := Lib.hid (show k ≠ 0 from by rw [HK4.out]; decide)
              go_wp2_with fail
              refine CST.out.mono ?_
              rintro e w6 ⟨rfl, C', R', p', L', As', Hs', q1, q2, q3, q4, q5, hF6, hb6, hkb6, _⟩
              have F6 := Lib.hid hF6
              have B6 := Lib.hid (HB.out.trans (hb6.mono B00.out.size))
              have hC' : C'.length ≤ 5100 := by have := q2 HKN.out; omega
              have hR' : R'.length ≤ 130000 + 2000 * (i + 1) := by omega
              have hH' : Hs'.length ≤ 61 + (i + 1) := by omega
              have G6 := Lib.hid (q5 mk g (fun _ => by have := HNM.out; omega) HGET.out)
              have K6 := Lib.hid (HKP.out.kb hkb6 HNE.out)
              clear hF6 hb6 q1 q2 q3 q4 q5 hkb6 CST y0 y1 y2 r0 r1
              go_wp2_with fail
              go_roundw
              case rel => exact ⟨i + 1, C', R', p', L', As', Hs', by go_num, by omega, hC', hR', hH', F6.out, G6.out, K6.out, B6.out⟩
              case measure => simp only [intOf]; omega
        · have CU := Lib.hid (pundo1 F.out (by omega) (by omega) (by omega) HGET.out _ (Below.refl _ _))
          go_wp2_with fail
          refine CU.out.mono ?_
          rintro e w6 ⟨rfl, hs6, hf6⟩
          have TW := Lib.hid (undo_twin F.out HGET.out hs6 hf6 HKP.out HNE.out)
          have B6 := Lib.hid (HB.out.trans (hf6.low.mono B00.out.size))
          clear CU hs6 hf6
          go_wp2_with fail
          refine (alike_any TW.out).mono ?_
          rintro e w7 ⟨rfl, h7⟩
          have B7 := Lib.hid (B6.out.trans (h7.mono B6.out.size))
          clear h7
          go_wp2_with fail
          go_ret
          exact ⟨rfl, B7.out⟩
end Go.Proofs.Ytgoedlbdnmhppaa
