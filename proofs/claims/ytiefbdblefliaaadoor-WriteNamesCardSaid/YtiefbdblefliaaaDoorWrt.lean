/- The walk through write.term: it writes the plain text behind. (Printed by tools/gen_wrt.py.) -/
import Derived.Test.YtiefbdblefliaaaDoorWrl
namespace Go.Proofs.YtiefbdblefliaaaDoor
open Go.RowKit

set_option maxRecDepth 100000 in
set_option maxHeartbeats 16000000 in
theorem wterm_any {nm : List ByteArray} (hnm : NamesFit nm) {B b S : Nat} {nv : Value} : ∀ (N : Nat) (t : T), t.nodes ≤ N → t.nodes ≤ 5000 → t.wr → t.fit → WtC nm B b nv S t := by
  intro N
  induction N with
  | zero =>
    intro t h0 _ hw
    cases t with
    | nil => exact hw.elim
    | mk k n s m a => simp only [T.nodes] at h0; omega
  | succ N ih =>
    intro t hN h5 hw hf l v w hv h hE hl
    cases t with
    | nil => exact hw.elim
    | mk k n s m a =>
      obtain ⟨k', n', s', A, m', c, rfl⟩ := hv.agg
      obtain ⟨e0, e1, e2, rfl, hmc, hA, _⟩ := hv.args
      injection e0 with _ e0
      injection e1 with _ e1
      injection e2 with e2
      subst e0; subst e1; subst e2
      have HV := Lib.hid hv
      have HW := Lib.hid h
      have HE := Lib.hid hE
      have HF := Lib.hid hf
      have hBl := h.le
      have hSB := hE.hS
      have hs4 : s'.size ≤ 4096 := hf.2.1
      have hn64 := Lib.hid hf.1
      have HNF := Lib.hid hnm
      clear hv h hE hf hA
      rcases wr_cases hw with rfl | rfl | rfl | rfl
      · have hn0 := wr_var hw
        have BX := Lib.hid (belA (Below.refl w.heap.size w) (Obj.cells #[.int .i64 1, .int .i64 n', .string s', .slice A m' c] 24))
        have XB := Lib.hid (heap_alloc_new w (Obj.cells #[.int .i64 1, .int .i64 n', .string s', .slice A m' c] 24))
        have KX := Lib.hid (Kw.of (B := B) BX.out hBl)
        have WX := Lib.hid (HW.out.below BX.out)
        have EX := Lib.hid (HE.out.kw KX.out)
        rw [tx_var] at hl ⊢
        have hl0 : l.length ≤ 1000000000000 := by omega
        have CV := Lib.hid (wvar_any HNF.out hn64.out hn0 B b S nv l (w.alloc (Obj.cells #[.int .i64 1, .int .i64 n', .string s', .slice A m' c] 24)) WX.out EX.out hl0)
        clear hw hl
        go_enter Tryd.func19, Tryd.ntmps19
        go_wp2_with fail
        refine CV.out.mono ?_
        rintro e w1 ⟨rfl, h1, k1⟩
        have P := Lib.hid (show WrP B b nv (l ++ nmV nm n') w (.returned (.tuple #[])) w1 from ⟨rfl, h1, KX.out.trans k1⟩)
        clear h1 k1
        go_wp2_with fail
        go_end0
        exact P.out
      · have BX := Lib.hid (belA (Below.refl w.heap.size w) (Obj.cells #[.int .i64 2, .int .i64 n', .string s', .slice A m' c] 24))
        have XB := Lib.hid (heap_alloc_new w (Obj.cells #[.int .i64 2, .int .i64 n', .string s', .slice A m' c] 24))
        have KX := Lib.hid (Kw.of (B := B) BX.out hBl)
        have WX := Lib.hid (HW.out.below BX.out)
        have EX := Lib.hid (HE.out.kw KX.out)
        rw [tx_int] at hl ⊢
        have CP := Lib.hid (pprint_any n' (w.alloc (Obj.cells #[.int .i64 2, .int .i64 n', .string s', .slice A m' c] 24)).drew hn64.out (EX.out.tab.tab.below ((Below.refl _ _).drew)))
        obtain ⟨u, hu⟩ : ∃ u : ByteArray, (⟨(Lib.itoa n').toArray⟩ : ByteArray) = u := ⟨_, rfl⟩
        have CP2 := CP
        rw [hu] at CP2
        have HU := Lib.hid (show u.data.toList = Lib.itoa n' by rw [← hu])
        have hl1 : l.length + (Lib.itoa n').length ≤ 140737488355328 := by show l.length + ((Lib.itoa n', 124 :: Lib.itoa n').1).length ≤ _; omega
        have CW := Lib.hid (fun (W : World) (hi : IsW B b nv (Lib.byteCells l) W) => wrb_any B b nv l (Lib.itoa n') u W hi HU.out hl1)
        have Q0 := Lib.hid ((Kw.refl B (w.alloc (Obj.cells #[.int .i64 2, .int .i64 n', .string s', .slice A m' c] 24))).drew)
        have KP := Lib.hid (fun (W : World) (k : Kw B (w.alloc (Obj.cells #[.int .i64 2, .int .i64 n', .string s', .slice A m' c] 24)) W) => (box4t (k.keep _ _ _ _ XB.out (by decide) (by decide))).2.1)
        have WD := Lib.hid (WX.out.below ((Below.refl _ _).drew))
        have q0 := Q0.out
        have hBX : B ≤ (w.alloc (Obj.cells #[.int .i64 2, .int .i64 n', .string s', .slice A m' c] 24)).heap.size := Nat.le_trans hBl KX.out.size
        clear hw hl hl1 hu CP
        go_enter Tryd.func19, Tryd.ntmps19
        go_wp2_with fail
        go_region_held3 (fun W => W.cell? ⟨w.heap.size, 1, none⟩ = some (.int .i64 n'))
          (first | (with_reducible exact KP.out _ q0) | (with_reducible exact KP.out _ q4) | (with_reducible exact KP.out _ q5))
          ((first | ((with_reducible refine CP2.out.mono ?_); rintro e w4 ⟨rfl, k4⟩; have q4 := q0.trans (Kw.of k4 hBX)) | ((with_reducible refine (CW.out _ (WD.out.below (k4.mono (Nat.le_refl _)))).mono ?_); rintro e w5 ⟨rfl, h5, k5⟩; have q5 := q4.trans k5)))
        have P := Lib.hid (show WrP B b nv (l ++ Lib.itoa n') w (.returned (.tuple #[])) w5 from ⟨rfl, h5, KX.out.trans q5⟩)
        clear h5 k5 q5 q4 k4
        go_wp2_with fail
        go_end0
        exact P.out
      · have BX := Lib.hid (belA (Below.refl w.heap.size w) (Obj.cells #[.int .i64 3, .int .i64 n', .string s', .slice A m' c] 24))
        have XB := Lib.hid (heap_alloc_new w (Obj.cells #[.int .i64 3, .int .i64 n', .string s', .slice A m' c] 24))
        have KX := Lib.hid (Kw.of (B := B) BX.out hBl)
        have WX := Lib.hid (HW.out.below BX.out)
        have EX := Lib.hid (HE.out.kw KX.out)
        have Q0 := Lib.hid ((Kw.refl B (w.alloc (Obj.cells #[.int .i64 3, .int .i64 n', .string s', .slice A m' c] 24))).drew)
        have KP := Lib.hid (fun (W : World) (k : Kw B (w.alloc (Obj.cells #[.int .i64 3, .int .i64 n', .string s', .slice A m' c] 24)) W) => (box4t (k.keep _ _ _ _ XB.out (by decide) (by decide))).2.2.1)
        have WD := Lib.hid (WX.out.below ((Below.refl _ _).drew))
        have q0 := Q0.out
        have hBX : B ≤ (w.alloc (Obj.cells #[.int .i64 3, .int .i64 n', .string s', .slice A m' c] 24)).heap.size := Nat.le_trans hBl KX.out.size
        clear hw
        cases h1 : (s'.toList == [91, 93]) with
        | true =>
          have HS := Lib.hid (show s'.data.toList = [91, 93] by rw [eq_str] at h1; rw [of_decide_eq_true h1, ba_list])
          rw [show (txB (nmV nm) (.mk 3 n' s' m' a)).1 = [91, 93] by rw [eq_str] at h1; rw [of_decide_eq_true h1]; show (txB (nmV nm) (.mk 3 n' nilS m' a)).1 = _; rw [tx_nil]] at hl ⊢
          have hl1 : l.length + ([91, 93] : List UInt8).length ≤ 140737488355328 := by omega
          have CW := Lib.hid (wrb_any B b nv l [91, 93] s' (w.alloc (Obj.cells #[.int .i64 3, .int .i64 n', .string s', .slice A m' c] 24)).drew WD.out HS.out hl1)
          clear hl hl1
          go_enter Tryd.func19, Tryd.ntmps19
          go_wp2_with fail
          go_region_held3 (fun W => W.cell? ⟨w.heap.size, 2, none⟩ = some (.string s'))
            (first | (with_reducible exact KP.out _ q0) | (with_reducible exact KP.out _ q5))
            (((with_reducible refine CW.out.mono ?_); rintro e w5 ⟨rfl, h5, k5⟩; have q5 := q0.trans k5))
          have P := Lib.hid (show WrP B b nv (l ++ [91, 93]) w (.returned (.tuple #[])) w5 from ⟨rfl, h5, KX.out.trans q5⟩)
          clear h5 k5 q5
          go_wp2_with fail
          go_end0
          exact P.out
        | false =>
          cases h2 : (s'.toList == [123, 125]) with
          | true =>
            have HS := Lib.hid (show s'.data.toList = [123, 125] by rw [eq_str] at h2; rw [of_decide_eq_true h2, ba_list])
            rw [show (txB (nmV nm) (.mk 3 n' s' m' a)).1 = [123, 125] by rw [eq_str] at h2; rw [of_decide_eq_true h2]; show (txB (nmV nm) (.mk 3 n' curS m' a)).1 = _; rw [tx_cur]] at hl ⊢
            have hl1 : l.length + ([123, 125] : List UInt8).length ≤ 140737488355328 := by omega
            have CW := Lib.hid (wrb_any B b nv l [123, 125] s' (w.alloc (Obj.cells #[.int .i64 3, .int .i64 n', .string s', .slice A m' c] 24)).drew WD.out HS.out hl1)
            clear hl hl1
            go_enter Tryd.func19, Tryd.ntmps19
            go_wp2_with fail
            go_region_held3 (fun W => W.cell? ⟨w.heap.size, 2, none⟩ = some (.string s'))
              (first | (with_reducible exact KP.out _ q0) | (with_reducible exact KP.out _ q5))
              (((with_reducible refine CW.out.mono ?_); rintro e w5 ⟨rfl, h5, k5⟩; have q5 := q0.trans k5))
            have P := Lib.hid (show WrP B b nv (l ++ [123, 125]) w (.returned (.tuple #[])) w5 from ⟨rfl, h5, KX.out.trans q5⟩)
            clear h5 k5 q5
            go_wp2_with fail
            go_end0
            exact P.out
          | false =>
            rw [show (txB (nmV nm) (.mk 3 n' s' m' a)).1 = (quoteN s').data.toList by rw [eq_str] at h1 h2; rw [tx_atom _ (of_decide_eq_false h1) (of_decide_eq_false h2)]] at hl ⊢
            have CQ := Lib.hid (pquote_any s' hs4 (w.alloc (Obj.cells #[.int .i64 3, .int .i64 n', .string s', .slice A m' c] 24)).drew)
            have hl1 : l.length + ((quoteN s').data.toList).length ≤ 140737488355328 := by omega
            have CW := Lib.hid (fun (W : World) (hi : IsW B b nv (Lib.byteCells l) W) => wrb_any B b nv l (quoteN s').data.toList (quoteN s') W hi rfl hl1)
            clear hl hl1
            go_enter Tryd.func19, Tryd.ntmps19
            go_wp2_with fail
            go_region_held3 (fun W => W.cell? ⟨w.heap.size, 2, none⟩ = some (.string s'))
              (first | (with_reducible exact KP.out _ q0) | (with_reducible exact KP.out _ q4) | (with_reducible exact KP.out _ q5))
              ((first | ((with_reducible refine CQ.out.mono ?_); rintro e w4 ⟨rfl, k4⟩; have q4 := q0.trans (Kw.of k4 hBX)) | ((with_reducible refine (CW.out _ (WD.out.below (k4.mono (Nat.le_refl _)))).mono ?_); rintro e w5 ⟨rfl, h5, k5⟩; have q5 := q4.trans k5)))
            have P := Lib.hid (show WrP B b nv (l ++ (quoteN s').data.toList) w (.returned (.tuple #[])) w5 from ⟨rfl, h5, KX.out.trans q5⟩)
            clear h5 k5 q5 q4 k4
            go_wp2_with fail
            go_end0
            exact P.out
      · have BX := Lib.hid (belA (Below.refl w.heap.size w) (Obj.cells #[.int .i64 4, .int .i64 n', .string s', .slice A m' c] 24))
        have XB := Lib.hid (heap_alloc_new w (Obj.cells #[.int .i64 4, .int .i64 n', .string s', .slice A m' c] 24))
        have KX := Lib.hid (Kw.of (B := B) BX.out hBl)
        have WX := Lib.hid (HW.out.below BX.out)
        have EX := Lib.hid (HE.out.kw KX.out)
        obtain ⟨hq, hm, hwa⟩ := wr_cmp hw
        have HNN := Lib.hid (show ∀ u : T, u.nodes < (T.mk 4 n' s' m' a).nodes → u.wr → u.fit → WtC nm B b nv S u from fun u h h' h'' => ih u (by omega) (by omega) h' h'')
        have CP := Lib.hid (islist_any 4 n' s' A m' c (w.alloc (Obj.cells #[.int .i64 4, .int .i64 n', .string s', .slice A m' c] 24)))
        cases hpr : isPr 4 s' m' with
        | true =>
          obtain ⟨_, rfl, rfl⟩ := isPr_iff.1 hpr
          rw [hpr] at CP
          have CL := Lib.hid (fun (W : World) (k : Kw B w W) (hi : IsW B b nv (Lib.byteCells l) W) => wlist_any hw HF.out h5 HNN.out l _ W (HV.out.low hSB k.low) hi (HE.out.kw k) hl)
          clear hpr hwa hw hl ih hN h5
          go_enter Tryd.func19, Tryd.ntmps19
          go_wp2_with fail
          refine CP.out.mono ?_
          rintro e w1 ⟨rfl, hb1⟩
          have K1 := Lib.hid (KX.out.on hb1 hBl)
          have X1 := Lib.hid ((hb1.block w.heap.size (by simp)).trans XB.out)
          obtain ⟨x0, x1, x2, x3⟩ := box4t X1.out
          have hx1 := heap_lt X1.out
          have C1 := Lib.hid (CL.out w1 K1.out (WX.out.below hb1))
          clear hb1 CP
          go_wp2_with fail
          refine C1.out.mono ?_
          rintro e w2 ⟨rfl, h2, k2⟩
          have P := Lib.hid (show WrP B b nv (l ++ (txB (nmV nm) (.mk 4 n' dotS 2 a)).1) w (.returned (.tuple #[])) w2 from ⟨rfl, h2, K1.out.trans k2⟩)
          clear h2 k2 C1
          go_wp2_with fail
          go_end0
          exact P.out
        | false =>
          have hnp : ¬ (s' = dotS ∧ m' = 2) := fun h => by
            have := isPr_iff.2 (show (4 : Int) = 4 ∧ s' = dotS ∧ m' = 2 from ⟨rfl, h⟩)
            rw [hpr] at this
            cases this
          rw [hpr] at CP
          obtain ⟨F, hF⟩ : ∃ F : List UInt8, partB (fun i => (txB (nmV nm) (a i)).1) m' = F := ⟨_, rfl⟩
          have HFF := Lib.hid hF
          have E := Lib.hid (show (txB (nmV nm) (.mk 4 n' s' m' a)).1 = (quoteN s').data.toList ++ 40 :: (F ++ [41]) by
            rw [tx_cmp _ hnp, ← hF, ← partB_all _ hm])
          rw [E.out] at hl ⊢
          have HL := Lib.hid hl
          have hm5 : m' ≤ 5000 := by have := wr_few (k := 4) (n := n') (s := s') hwa; omega
          have HWA := Lib.hid (show ∀ i, i < m' → WtC nm B b nv S (a i) from fun i hi => by
            have h1 := sumTo_one (f := fun i => (a i).nodes) hi
            exact HNN.out _ (by simp only [T.nodes]; omega) (hwa i hi) (HF.out.2.2 i hi))
          have hqs : (quoteN s').size ≤ 8194 := by
            have e : (quoteN s').data.toList.length = (quoteN s').size := Array.length_toList
            have := quote_len hs4
            omega
          have hcat : ¬ (9223372036854775807 < (quoteN s').size + 1) := by omega
          have hcat2 : ¬ (9223372036854775806 < (quoteN s').size) := by omega
          have CW := Lib.hid (fun (W : World) (hi : IsW B b nv (Lib.byteCells l) W) => wrb_any B b nv l ((quoteN s').data.toList ++ [40]) (quoteN s' ++ ⟨#[40]⟩) W hi (by rw [cat2]) (by have := HL.out; simp only [List.length_append, List.length_cons, List.length_nil] at this ⊢; omega))
          have hBX : B ≤ (w.alloc (Obj.cells #[.int .i64 4, .int .i64 n', .string s', .slice A m' c] 24)).heap.size := Nat.le_trans hBl KX.out.size
          have CQ := Lib.hid (fun W => pquote_any s' hs4 W)
          clear hpr hwa hw hl ih hN h5 hF hnp
          go_enter Tryd.func19, Tryd.ntmps19
          go_wp2_with fail
          refine CP.out.mono ?_
          rintro e w1 ⟨rfl, hb1⟩
          have K1 := Lib.hid (KX.out.on hb1 hBl)
          have X1 := Lib.hid ((hb1.block w.heap.size (by simp)).trans XB.out)
          obtain ⟨x0, x1, x2, x3⟩ := box4t X1.out
          have hx1 := heap_lt X1.out
          have Q0 := Lib.hid ((Kw.refl B w1).drew)
          have KP := Lib.hid (fun (W : World) (k : Kw B w1 W) => (box4t (k.keep _ _ _ _ X1.out (by decide) (by decide))).2.2.1)
          have WD := Lib.hid ((WX.out.below hb1).below ((Below.refl _ w1).drew))
          have q0 := Q0.out
          have hB1 : B ≤ w1.heap.size := Nat.le_trans hBl K1.out.size
          have CQ2 := Lib.hid (CQ.out w1.drew)
          clear hb1 CP CQ
          go_wp2_with fail
          go_region_held3 (fun W => W.cell? ⟨w.heap.size, 2, none⟩ = some (.string s'))
            (first | (with_reducible exact KP.out _ q0) | (with_reducible exact KP.out _ q4) | (with_reducible exact KP.out _ q5))
            ((first | ((with_reducible refine CQ2.out.mono ?_); rintro e w4 ⟨rfl, k4⟩; have q4 := q0.trans (Kw.of k4 hB1)) | ((with_reducible refine (CW.out _ (WD.out.below (k4.mono (Nat.le_refl _)))).mono ?_); rintro e w5 ⟨rfl, h5, k5⟩; have q5 := q4.trans k5)))
          have K5 := Lib.hid (K1.out.trans q5)
          have X5 := Lib.hid (q5.keep _ _ _ _ X1.out (by decide) (by decide))
          have W5 := Lib.hid h5
          have C5 := Lib.hid (wrow_any HWA.out (by omega) _ _ w5 h5 (HE.out.kw K5.out) ((HV.out.low hSB K5.out.low).row) (by rw [HFF.out]; have := HL.out; simp only [List.length_append, List.length_cons, List.length_nil] at this ⊢; omega))
          have hx5 := heap_lt X5.out
          rw [HFF.out] at C5
          clear x0 x1 x2 x3 h5 k5 q5 q4 k4 CQ2
          obtain ⟨x0, x1, x2, x3⟩ := box4t X5.out
          go_wp2_with fail
          refine C5.out.mono ?_
          rintro e w6 ⟨rfl, h6, k6⟩
          have C6 := Lib.hid (wrb_any B b nv _ [41] ⟨#[41]⟩ w6 h6 rfl (by have := HL.out; simp only [List.length_append, List.length_cons, List.length_nil] at this ⊢; omega))
          have K6 := Lib.hid (K5.out.trans k6)
          clear h6 k6 C5
          go_wp2_with fail
          refine C6.out.mono ?_
          rintro e w7 ⟨rfl, h7, k7⟩
          have P := Lib.hid (show WrP B b nv (l ++ ((quoteN s').data.toList ++ 40 :: (F ++ [41]))) w (.returned (.tuple #[])) w7 from ⟨rfl, by simpa using h7, K6.out.trans k7⟩)
          clear h7 k7 C6
          go_wp2_with fail
          go_end0
          exact P.out
end Go.Proofs.YtiefbdblefliaaaDoor
