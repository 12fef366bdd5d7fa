/- The program's store: Unify. -/
import Derived.Test.YtgoedlbdnmhppaaSa1
import Derived.Test.YtgoedlbdnmhppaaRu7
namespace Go.Proofs.Ytgoedlbdnmhppaa
open Go.RowKit

theorem SF.sx {B lb : Nat} {w w1 w2 : World} (h : Below w.heap.size w w1) (hB : B ≤ w.heap.size) (k : SX B lb w1 w2) (hl : w.heap.size ≤ lb) : SF B w w2 :=
  ⟨(h.mono hB).trans k.low, fun g o hg hn => k.far g o (by have := heap_lt hg; omega) ((h.block g (heap_lt hg)).trans hg) hn⟩
theorem SF.then {B : Nat} {w w1 w2 : World} (h : SF B w w1) (hB : B ≤ w.heap.size) (k : Below w1.heap.size w1 w2) : SF B w w2 := h.trans (SF.below (Nat.le_trans hB h.low.size) k)
/-- What Unify comes to. -/
def SUnifyP (r : Res) (L : Bs) (w : World) (B sb : Nat) (C : List CV) (R : List (CV × Nat)) (M : List (Nat × Nat)) (e : Ending) (w' : World) : Prop := (match r with
  | .ok L1 _ => ∃ v Ns C' R', L1 = L ++ Ns ∧ e = .returned (.tuple #[v, .int .i64 0]) ∧ IRow w' v (Ns.map Prod.fst) ∧ SM w' B sb C' R' M ∧ CL w' C' L1 ∧ Grew C C' R R' Ns ∧ R'.length ≤ R.length + 2000
  | .many => e = .returned (.tuple #[.slice none 0 0, .int .i64 34]) ∧ SM w' B sb C R M
  | .unlike => e = .returned (.tuple #[.slice none 0 0, .int .i64 80]) ∧ SM w' B sb C R M) ∧ SF B w w'
set_option maxRecDepth 100000 in
set_option maxHeartbeats 8000000 in
theorem sunify_no {w : World} {B sb : Nat} {C : List CV} {R : List (CV × Nat)} {M : List (Nat × Nat)} (h : SM w B sb C R M) {ta tb : T} {va vb : Value} (ha : TP w (fun _ => True) ta va) (hb : TP w (fun _ => True) tb vb) (oa : ta.ok) (ob : tb.ok)
    (hno : ¬ (allV ta (C.length : Int) ∧ allV tb (C.length : Int))) :
    Calls Try.prog 15 #[.pointer (some ⟨sb, 0, none⟩), va, vb] w fun e w' => e = .returned (.tuple #[.slice none 0 0, .int .i64 1]) ∧ Below w.heap.size w w' := by
  obtain ⟨k0, k1, k2, A0, m0, c0, rfl⟩ := ha.agg
  obtain ⟨j0, j1, j2, B0, n0, d0, rfl⟩ := hb.agg
  have B2 := Lib.hid (belS (belS (Below.refl w.heap.size w) (Obj.cells #[.int .i64 k0, .int .i64 k1, .string k2, .slice A0 m0 c0] 40)) (Obj.cells #[.int .i64 j0, .int .i64 j1, .string j2, .slice B0 n0 d0] 40))
  have CA := Lib.hid (sknown_any ta oa _ _ _ (h.below B2.out) (ha.below B2.out))
  have CB := Lib.hid (fun (W : World) (hW : Below w.heap.size w W) => sknown_any tb ob W _ _ (h.below hW) (hb.below hW))
  have Y0 := Lib.hid (show ((w.alloc (Obj.cells #[.int .i64 k0, .int .i64 k1, .string k2, .slice A0 m0 c0] 40)).alloc (Obj.cells #[.int .i64 j0, .int .i64 j1, .string j2, .slice B0 n0 d0] 40)).heap[w.heap.size + 1]? = some (.cells #[.int .i64 j0, .int .i64 j1, .string j2, .slice B0 n0 d0] 40 (0, 0)) from
    (congrArg _ (by simp)).trans (heap_alloc_new _ _))
  have HNO := Lib.hid hno
  clear h ha hb hno
  go_enter Try.func15, Try.ntmps15
  go_wp2_with fail
  refine CA.out.mono ?_
  rintro e w5 ⟨⟨b, rfl, hb⟩, h5⟩
  have BB := Lib.hid hb
  have H5 := Lib.hid (B2.out.trans (h5.mono B2.out.size))
  have hy := (h5.block _ (heap_lt Y0.out)).trans Y0.out
  obtain ⟨y0, y1, y2, y3⟩ := box4 hy
  have hyl := heap_lt hy
  clear hb h5 hy CA
  cases b with
  | false =>
    go_wp2_with fail
    go_ret2
    exact ⟨rfl, H5.out⟩
  | true =>
    have hq := Lib.hid (show ¬ allV tb (C.length : Int) from fun hb => HNO.out ⟨BB.out.mp rfl, hb⟩)
    go_wp2_with fail
    refine (CB.out _ H5.out).mono ?_
    rintro e w6 ⟨⟨b, rfl, hb⟩, h6⟩
    have H6 := Lib.hid (H5.out.trans (h6.mono H5.out.size))
    obtain rfl : b = false := by
      cases b with
      | false => rfl
      | true => exact absurd (hb.mp rfl) hq.out
    clear hb h6 CB
    go_wp2_with fail
    go_ret2
    exact ⟨rfl, H6.out⟩
set_option maxRecDepth 100000 in
set_option maxHeartbeats 8000000 in
theorem sunify_any {w : World} {B sb : Nat} {C : List CV} {R : List (CV × Nat)} {M : List (Nat × Nat)} {L : Bs} (h : SM w B sb C R M) (hc : CL w C L) (hR : R.length ≤ 900000) (hCn : C.length ≤ 1000000) {ta tb : T} {va vb : Value} (ha : TP w (fun _ => True) ta va) (hb : TP w (fun _ => True) tb vb) (oa : ta.ok) (ob : tb.ok)
    (ka : allV ta (C.length : Int)) (kb : allV tb (C.length : Int)) :
    Calls Try.prog 15 #[.pointer (some ⟨sb, 0, none⟩), va, vb] w fun e w' => SUnifyP (uniF 2000 L [(ta, tb)]) L w B sb C R M e w' := by
  obtain ⟨k0, k1, k2, A0, m0, c0, rfl⟩ := ha.agg
  obtain ⟨j0, j1, j2, B0, n0, d0, rfl⟩ := hb.agg
  have B2 := Lib.hid (belS (belS (Below.refl w.heap.size w) (Obj.cells #[.int .i64 k0, .int .i64 k1, .string k2, .slice A0 m0 c0] 40)) (Obj.cells #[.int .i64 j0, .int .i64 j1, .string j2, .slice B0 n0 d0] 40))
  have CA := Lib.hid (sknown_any ta oa _ _ _ (h.below B2.out) (ha.below B2.out))
  have CB := Lib.hid (fun (W : World) (hW : Below w.heap.size w W) => sknown_any tb ob W _ _ (h.below hW) (hb.below hW))
  have X0 := Lib.hid (show ((w.alloc (Obj.cells #[.int .i64 k0, .int .i64 k1, .string k2, .slice A0 m0 c0] 40)).alloc (Obj.cells #[.int .i64 j0, .int .i64 j1, .string j2, .slice B0 n0 d0] 40)).heap[w.heap.size]? = some (.cells #[.int .i64 k0, .int .i64 k1, .string k2, .slice A0 m0 c0] 40 (0, 0)) from
    (Below.heap_alloc _ _ _ (by simp)).trans (heap_alloc_new _ _))
  have Y0 := Lib.hid (show ((w.alloc (Obj.cells #[.int .i64 k0, .int .i64 k1, .string k2, .slice A0 m0 c0] 40)).alloc (Obj.cells #[.int .i64 j0, .int .i64 j1, .string j2, .slice B0 n0 d0] 40)).heap[w.heap.size + 1]? = some (.cells #[.int .i64 j0, .int .i64 j1, .string j2, .slice B0 n0 d0] 40 (0, 0)) from
    (congrArg _ (by simp)).trans (heap_alloc_new _ _))
  have H := Lib.hid h
  have HC := Lib.hid hc
  have HA := Lib.hid ha
  have HB := Lib.hid hb
  have KA := Lib.hid ka
  have KB := Lib.hid kb
  have hBw : B ≤ w.heap.size := by obtain ⟨_, _, _, hl⟩ := h.lenAt; have := h.ge; omega
  clear h ha hb hc ka kb
  go_enter Try.func15, Try.ntmps15
  go_wp2_with fail
  refine CA.out.mono ?_
  rintro e w5 ⟨⟨b, rfl, hb⟩, h5⟩
  obtain rfl := hb.mpr KA.out
  have H5 := Lib.hid (B2.out.trans (h5.mono B2.out.size))
  have hx := (h5.block _ (heap_lt X0.out)).trans X0.out
  have hy := (h5.block _ (heap_lt Y0.out)).trans Y0.out
  have HX5 := Lib.hid hx
  have HY5 := Lib.hid hy
  obtain ⟨y0, y1, y2, y3⟩ := box4 hy
  have hyl := heap_lt hy
  clear hb h5 hx hy CA X0 Y0
  go_wp2_with fail
  refine (CB.out _ H5.out).mono ?_
  rintro e w6 ⟨⟨b, rfl, hb⟩, h6⟩
  obtain rfl := hb.mpr KB.out
  have H6 := Lib.hid (H5.out.trans (h6.mono H5.out.size))
  have hx := (h6.block _ (heap_lt HX5.out)).trans HX5.out
  have hy := (h6.block _ (heap_lt HY5.out)).trans HY5.out
  clear y0 y1 y2 y3 hyl
  obtain ⟨x0, x1, x2, x3⟩ := box4 hx
  obtain ⟨y0, y1, y2, y3⟩ := box4 hy
  have hxl := heap_lt hx
  have hyl := heap_lt hy
  have HX6 := Lib.hid hx
  have HY6 := Lib.hid hy
  have SM6 := Lib.hid (H.out.below H6.out)
  have CL6 := Lib.hid (HC.out.below H6.out)
  obtain ⟨A0, c0', A1, c1, A2, c2, hbb, _, hr1, _⟩ := SM6.out.ex
  have b1 := cell_of_row w6 sb 1 _ _ _ hbb
  have hsl := heap_lt hbb
  clear hb h6 hx hy CB HX5 HY5 hbb hr1
  have CS := Lib.hid (show ∀ W : World, Below w6.heap.size w6 W → W = w6.alloc (Obj.cells #[.int .i64 2000] 3) → _ from fun W hW hE =>
    ssame_any 2000 W B sb w6.heap.size C R M L ta tb _ _ (SM6.out.below hW) (CL6.out.below hW) (by subst hE; exact heap_alloc_new _ _) (Nat.le_trans hBw H6.out.size) (Nat.le_refl _) (by omega) (HA.out.below (H6.out.trans (hW.mono H6.out.size))) (HB.out.below (H6.out.trans (hW.mono H6.out.size))) oa ob KA.out KB.out)
  go_wp2_with fail
  refine (CS.out _ (belS (Below.refl _ _) _) rfl).mono ?_
  rintro e w7 ⟨er, f7, C7, R7, N7, rfl, hq⟩
  have Q := Lib.hid hq
  have BW7 := Lib.hid (belS (Below.refl w6.heap.size w6) (Obj.cells #[.int .i64 2000] 3))
  have F7 := Lib.hid (SF.sx (H6.out.trans (BW7.out.mono H6.out.size)) hBw hq.fr (by have := H6.out.size; omega))
  obtain ⟨A0', c0'', A1', c1', A2', c2', hbb, _, hr1, _⟩ := hq.sm.ex
  have z1 := cell_of_row w7 sb 1 _ _ _ hbb
  have hzl := heap_lt hbb
  have hout := hq.out
  have hgr := hq.gr.ex
  have hlen := hq.gr.len
  have hfew := hq.few
  have HR1 := Lib.hid hr1
  clear hq x0 x1 x2 x3 y0 y1 y2 y3 hxl hyl b1 hsl CS hbb hr1
  rcases hout with ⟨rfl, f2, rfl, hr, hle, hlf⟩ | ⟨rfl, hr⟩ | ⟨rfl, hr⟩
  · obtain ⟨R2, rfl, hb2, hn2, hi2⟩ := hgr
    have HR := Lib.hid hr
    have HN2 := Lib.hid hn2
    have hr1 := HR1.out
    have hcap : (R ++ R2).length ≤ c1' := by obtain ⟨_, _, e, hc, _⟩ := own_open hr1; injection e with _ _ e; omega
    have hll : (R ++ R2).length = R.length + R2.length := List.length_append
    obtain ⟨nt, hnt⟩ : ∃ nt, (R ++ R2).length = nt := ⟨_, rfl⟩
    rw [hnt] at z1 hcap hll hfew hle
    have HNT := Lib.hid hnt
    have htop : R.length ≤ nt := by omega
    have FIN := Lib.hid (show ∀ (v : Value) (W : World), IRow W v (N7.map Prod.fst) → Below w7.heap.size w7 W → SUnifyP (uniF 2000 L [(ta, tb)]) L w B sb C R M (.returned (.tuple #[v, .int .i64 0])) W from fun v W hv hW => by
      rw [HR.out]
      exact ⟨⟨v, N7, C7, R ++ R2, rfl, rfl, hv, Q.out.sm.below hW, Q.out.cl.below hW, Q.out.gr, Q.out.few⟩, F7.out.then hBw hW⟩)
    clear hr hb2 hi2 hr1 hnt hn2
    by_cases hR2 : R2.length = 0
    · have hnil : N7.map Prod.fst = [] := by
        have := HN2.out
        rw [List.eq_nil_of_length_eq_zero hR2] at this
        simpa using this.symm
      have HNIL := Lib.hid hnil
      obtain rfl : nt = R.length := by omega
      clear hnil hR2 hll
      by_cases hcc : c1' = R.length
      · subst hcc
        go_wp2_with fail
        go_loopw [11, 46] (fun s11 iv wr => s11 = .slice none 0 0 ∧ iv = .int .i64 0 ∧ Below w7.heap.size w7 wr) (fun _ _ _ => 0)
        case atStart => exact ⟨rfl, rfl, Below.refl _ _⟩
        case round =>
          obtain ⟨rfl, rfl, hb⟩ := hrel
          have HB := Lib.hid hb
          clear hb
          go_wp2_with fail
          go_ret2
          exact FIN.out _ _ (by rw [HNIL.out]; exact IRow.nil _) HB.out
      · have hcl : R.length < c1' := by omega
        go_wp2_with fail
        go_loopw [11, 46] (fun s11 iv wr => s11 = .slice none 0 0 ∧ iv = .int .i64 0 ∧ Below w7.heap.size w7 wr) (fun _ _ _ => 0)
        case atStart => exact ⟨rfl, rfl, Below.refl _ _⟩
        case round =>
          obtain ⟨rfl, rfl, hb⟩ := hrel
          have HB := Lib.hid hb
          clear hb
          go_wp2_with fail
          go_ret2
          exact FIN.out _ _ (by rw [HNIL.out]; exact IRow.nil _) HB.out
    · have hcl : R.length < c1' := by omega
      obtain ⟨x0, hx0⟩ : ∃ x, (R ++ R2)[R.length]? = some x := ⟨_, List.getElem?_eq_getElem (by have := HNT.out; omega)⟩
      obtain ⟨g1, rfl, hg1, ⟨cs1, hh1, hz1⟩, hc1', _⟩ := own_elem evals_len HR1.out hx0 rfl
      have HH1 := Lib.hid hh1
      have hgl := heap_lt hh1
      obtain ⟨item, ii1, ii2, ii3, ii4⟩ := elInt8.hi
      clear hx0 hh1 hR2
      go_wp2_with fail
      go_loopw [11, 46] (fun s11 iv wr => ∃ i : Nat, iv = .int .i64 (i : Int) ∧ i ≤ R2.length ∧ wr.ownsRow w7.heap.size 3 1 s11 i (((R2.take i).map fun e => (e.2 : Int)).map (Value.int .i64)) ∧ Below w7.heap.size w7 wr) (fun _ iv _ => R2.length - (intOf iv).toNat)
      case atStart => exact ⟨0, rfl, Nat.zero_le _, World.ownsRow_nil _ _ _ _, Below.refl _ _⟩
      case round =>
        obtain ⟨i, rfl, hi, hown, hlow⟩ := hrel
        have HO := Lib.hid hown
        have HLW := Lib.hid hlow
        have hgr' : g1 < wr.heap.size := Nat.lt_of_lt_of_le hgl hlow.size
        have hsz := hlow.size
        clear hown
        by_cases him : i < R2.length
        · have him' : (i : Int) < ((nt - R.length : Nat) : Int) := by omega
          obtain ⟨q, hq⟩ : ∃ q, R2[i]? = some q := ⟨_, List.getElem?_eq_getElem him⟩
          have hq2 : (R ++ R2)[R.length + i]? = some q := by rw [List.getElem?_append_right (by omega)]; simpa using hq
          obtain ⟨g1', eg, _, _, _, hel⟩ := own_elem evals_len (own_below HR1.out hlow) hq2 rfl
          injection eg with eg
          injection eg with eg
          subst eg
          rw [Nat.add_mul] at hel
          have HQ := Lib.hid hq
          obtain ⟨⟨qb, ⟨tk, tn, ts, tA, tm, tc⟩, ⟨ak, an, as_, aA, am, ac⟩⟩, qi⟩ := q
          have d0 := hel 0 _ rfl
          have d1 := hel 1 _ rfl
          have d2 := hel 2 _ rfl
          have d3 := hel 3 _ rfl
          have d4 := hel 4 _ rfl
          have d5 := hel 5 _ rfl
          have d6 := hel 6 _ rfl
          have d7 := hel 7 _ rfl
          have d8 := hel 8 _ rfl
          have d9 := hel 9 _ rfl
          simp only [Nat.add_zero] at d0
          clear hel hq hq2 hlow
          go_wp2_with (at_builtin; go_must (refine wpList_push_any _ rfl _ _ _ rfl elInt8 w7.heap.size _ i _ rfl (own_below HO.out (belS (belS (Below.refl _ _) _) _)) (wr.heap.size + 1) 1 [.int .i64 (qi : Int)] rfl rfl ?_ ?_ (by omega) (by unfold maxLen; omega) (by simp; omega) ?_))
          · rfl
          intro v9 w9 hown9 hb9
          have O9 := Lib.hid (show w9.ownsRow w7.heap.size 3 1 v9 (i + 1) (((R2.take (i + 1)).map fun e => (e.2 : Int)).map (Value.int .i64)) from by
            rw [List.take_add_one, HQ.out]
            simpa using hown9)
          have L9 := Lib.hid (show Below w7.heap.size w7 w9 from ((HLW.out.alloc HLW.out.size _).alloc (by simp; omega) _).trans hb9)
          clear hown9 hb9
          go_wp2_with fail
          go_roundw
          case rel => exact ⟨i + 1, by go_num, him, O9.out, L9.out⟩
          case measure => simp [intOf]; omega
        · obtain rfl : i = R2.length := by omega
          have him' : ¬ ((R2.length : Int) < ((nt - R.length : Nat) : Int)) := by omega
          have I9 := Lib.hid (show IRow wr _ (N7.map Prod.fst) from by
            have := ownsRow_more HO.out (Nat.zero_le _)
            rw [List.take_length, HN2.out] at this
            have hl2 : R2.length = (N7.map Prod.fst).length := by have := congrArg List.length HN2.out; simpa using this
            unfold IRow
            rw [← hl2]
            exact this)
          clear hlow
          go_wp2_with fail
          go_ret2
          exact FIN.out _ _ I9.out HLW.out
  · obtain ⟨R2, rfl, hb2, hn2, hi2⟩ := hgr
    have HR := Lib.hid hr
    have CBK := Lib.hid (sback_any Q.out.sm (by rw [hlen]; exact hi2) (by have := hfew; omega) (by omega))
    have HB2 := Lib.hid hb2
    clear hr hb2 hn2 hi2
    go_wp2_with fail
    refine CBK.out.mono ?_
    rintro e w8 ⟨rfl, hs8, hf8, _⟩
    have S8 := Lib.hid hs8
    have F8 := Lib.hid hf8
    clear hs8 hf8 CBK
    go_wp2_with fail
    go_ret2
    rw [HR.out]
    exact ⟨⟨rfl, by have := S8.out; rw [HB2.out] at this; exact this⟩, F7.out.trans F8.out⟩
  · obtain ⟨R2, rfl, hb2, hn2, hi2⟩ := hgr
    have HR := Lib.hid hr
    have CBK := Lib.hid (sback_any Q.out.sm (by rw [hlen]; exact hi2) (by have := hfew; omega) (by omega))
    have HB2 := Lib.hid hb2
    clear hr hb2 hn2 hi2
    go_wp2_with fail
    refine CBK.out.mono ?_
    rintro e w8 ⟨rfl, hs8, hf8, _⟩
    have S8 := Lib.hid hs8
    have F8 := Lib.hid hf8
    clear hs8 hf8 CBK
    go_wp2_with fail
    go_ret2
    rw [HR.out]
    exact ⟨⟨rfl, by have := S8.out; rw [HB2.out] at this; exact this⟩, F7.out.trans F8.out⟩
end Go.Proofs.Ytgoedlbdnmhppaa
