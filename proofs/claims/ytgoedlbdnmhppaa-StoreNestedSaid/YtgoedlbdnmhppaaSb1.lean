/- The reference's store: Size, Attr, Resolve, Unify. -/
import Derived.Test.YtgoedlbdnmhppaaSb0
import Derived.Deep.RegionLaw
namespace Go.Proofs.Ytgoedlbdnmhppaa
open Go.RowKit

set_option maxRecDepth 100000 in
set_option maxHeartbeats 4000000 in
theorem rsize9_any {w : World} {B rb : Nat} {p : PV} {Ps : List PV} {L : Bs} {As : List T} (h : RM w B rb p Ps) (hp : PA w p L As) {t : T} {v : Value} (hv : TP w (fun _ => True) t v) (ht : t.ok) :
    Calls Try.prog 36 #[.pointer (some ⟨rb, 0, none⟩), v, .int .i64 200] w fun e w' => (∃ z : Int, e = .returned (.int .i64 z)) ∧ Below w.heap.size w w' := by
  obtain ⟨k0, k1, k2, A0, m0, c0, rfl⟩ := hv.agg
  obtain ⟨MA, mc, x0, x1, x2, x3, _, hl, _, _⟩ := h.box
  have HB := Lib.hid (belS (belS (Below.refl w.heap.size w) (Obj.cells #[.int .i64 k0, .int .i64 k1, .string k2, .slice A0 m0 c0] 40)) (Obj.cells #[.slice p.LA p.ln p.lc] 85))
  have CB := Lib.hid (rsize_any (w := (w.alloc (Obj.cells #[.int .i64 k0, .int .i64 k1, .string k2, .slice A0 m0 c0] 40)).alloc (Obj.cells #[.slice p.LA p.ln p.lc] 85)) (rb := w.heap.size + 1) (L := L) (A := p.LA) (c := p.lc) (by rw [← hp.ln]; exact (congrArg _ (by simp)).trans (heap_alloc_new _ _)) (hp.bl.below HB.out) hp.ok (hv.below HB.out) ht)
  have X0 := Lib.hid (show ((w.alloc (Obj.cells #[.int .i64 k0, .int .i64 k1, .string k2, .slice A0 m0 c0] 40)).alloc (Obj.cells #[.slice p.LA p.ln p.lc] 85)).heap[w.heap.size]? = some (.cells #[.int .i64 k0, .int .i64 k1, .string k2, .slice A0 m0 c0] 40 (0, 0)) from (Below.heap_alloc _ _ _ (by simp)).trans (heap_alloc_new _ _))
  clear h hp hv
  go_enter Try.func36, Try.ntmps36
  go_wp2_with fail
  refine CB.out.mono ?_
  rintro e w5 ⟨⟨z, rfl⟩, h5⟩
  have H5 := Lib.hid (HB.out.trans (h5.mono HB.out.size))
  clear h5 CB
  go_wp2_with fail
  go_ret
  exact ⟨⟨z, rfl⟩, H5.out⟩
set_option maxRecDepth 100000 in
set_option maxHeartbeats 4000000 in
theorem rattr9_out {w : World} {B rb : Nat} {p : PV} {Ps : List PV} (h : RM w B rb p Ps) {n : Int} (ho : n < 0 ∨ (p.n : Int) ≤ n) :
    Calls Try.prog 37 #[.pointer (some ⟨rb, 0, none⟩), .int .i64 n] w fun e w' => e = .returned noneV ∧ Below w.heap.size w w' := by
  obtain ⟨MA, mc, x0, x1, x2, x3, _, hl, _, _⟩ := h.box
  clear h
  by_cases hn : n < 0
  · go_enter Try.func37, Try.ntmps37
    go_wp2_with fail
    refine bodyPost_ret (v := noneV) (by simp [results, go_sem, noneV]) rfl ?_
    exact ⟨rfl, (belS (Below.refl _ _) _)⟩
  · have hge : n ≥ (p.n : Int) := by omega
    clear ho
    go_enter Try.func37, Try.ntmps37
    go_wp2_with fail
    refine bodyPost_ret (v := noneV) (by simp [results, go_sem, noneV]) rfl ?_
    exact ⟨rfl, (belS (Below.refl _ _) _)⟩
def AttrP (a : T) (w : World) (e : Ending) (w' : World) : Prop := (∃ k n s A m c, e = .returned (.agg #[.int .i64 k, .int .i64 n, .string s, .slice A m c]) ∧ TP w (fun _ => True) a (.agg #[.int .i64 k, .int .i64 n, .string s, .slice A m c])) ∧ Below w.heap.size w w'
set_option maxRecDepth 100000 in
set_option maxHeartbeats 4000000 in
theorem rattr9_in {w : World} {B rb : Nat} {p : PV} {Ps : List PV} {L : Bs} {As : List T} (h : RM w B rb p Ps) (hp : PA w p L As) {n : Nat} {a : T} (ho : As[n]? = some a) :
    Calls Try.prog 37 #[.pointer (some ⟨rb, 0, none⟩), .int .i64 (n : Int)] w fun e w' => AttrP a w e w' := by
  obtain ⟨MA, mc, x0, x1, x2, x3, _, hl, _, _⟩ := h.box
  obtain ⟨ts, ho1, hat⟩ := hp.at_
  have hna := lt_of_at ho
  obtain ⟨v, hv⟩ : ∃ v, ts[n]? = some v := ⟨_, List.getElem?_eq_getElem (by rw [hat.len]; exact hna)⟩
  have hpa := hp.am
  have hlt := hat.len
  obtain ⟨g0, hAA, hg0, ⟨cs0, hh0, hz0⟩, hc0, hel⟩ := own_elem tvals_len ho1 hv (by omega)
  have HT := Lib.hid (hat.tp n v a hv ho).1
  obtain ⟨ak, an, as_, aA, am, ac⟩ := v
  have o0 := hel 0 _ rfl
  have o1 := hel 1 _ rfl
  have o2 := hel 2 _ rfl
  have o3 := hel 3 _ rfl
  simp only [Nat.add_zero] at o0
  have hl0 := heap_lt hh0
  rw [hAA] at x2
  have hn0 : ¬ ((n : Int) < 0) := by omega
  have hnge : ¬ ((n : Int) ≥ (p.n : Int)) := by have := hp.n; omega
  have hni : (n : Int) < (p.am : Int) := by omega
  clear h hp ho1 hat hel hh0 ho hv hAA hpa hlt
  go_enter Try.func37, Try.ntmps37
  go_wp2_with fail
  refine bodyPost_ret (v := .agg #[.int .i64 ak, .int .i64 an, .string as_, .slice aA am ac]) (by simp [results, go_sem]) rfl ?_
  exact ⟨⟨ak, an, as_, aA, am, ac, rfl, HT.out⟩, (belS (Below.refl _ _) _)⟩
def ResP (u : T) (w : World) (e : Ending) (w' : World) : Prop := (∃ v, e = .returned v ∧ TP w' (fun _ => True) u v) ∧ Below w.heap.size w w'
set_option maxRecDepth 100000 in
set_option maxHeartbeats 4000000 in
theorem rresolve9_any {w : World} {B rb : Nat} {p : PV} {Ps : List PV} {L : Bs} {As : List T} (h : RM w B rb p Ps) (hp : PA w p L As) {f : Nat} {t : T} {v : Value} (hv : TP w (fun _ => True) t v) (ht : t.ok) (hd : Deep L f t) :
    Calls Try.prog 39 #[.pointer (some ⟨rb, 0, none⟩), v] w fun e w' => ResP (resF L f t) w e w' := by
  obtain ⟨k0, n0, s0, A0, m0, c0, rfl⟩ := hv.agg
  obtain ⟨W, hW⟩ : ∃ W, W = (w.alloc (Obj.cells #[.int .i64 k0, .int .i64 n0, .string s0, .slice A0 m0 c0] 40)).alloc (Obj.cells #[.int .i64 0, .int .i64 0, .string ⟨#[]⟩, .slice none 0 0] 40) := ⟨_, rfl⟩
  have BX := Lib.hid (show Below w.heap.size w W by rw [hW]; exact belA (belA (Below.refl w.heap.size w) (Obj.cells #[.int .i64 k0, .int .i64 n0, .string s0, .slice A0 m0 c0] 40)) (Obj.cells #[.int .i64 0, .int .i64 0, .string ⟨#[]⟩, .slice none 0 0] 40))
  obtain ⟨MA, mc, b0, b1, b2, b3, _, hl, _, _⟩ := (h.below BX.out).box
  have CI := Lib.hid (show ∀ X, Below w.heap.size w X → Calls Try.prog 48 #[.slice p.LA p.ln p.lc, .agg #[.int .i64 k0, .int .i64 n0, .string s0, .slice A0 m0 c0]] X fun e w' => (∃ v', e = .returned v' ∧ TP w' (fun b => b < w.heap.size ∨ X.heap.size ≤ b) (resF L f t) v') ∧ Below X.heap.size X w' from fun X hX => by
    rw [hp.ln]; exact resv_any hp.ok f t ht hd w X p.LA p.lc _ hp.bl hv hX)
  have X0 : W.heap[w.heap.size]? = some (.cells #[.int .i64 k0, .int .i64 n0, .string s0, .slice A0 m0 c0] 40 (0, 0)) := by rw [hW]; exact (Below.heap_alloc _ _ _ (by simp)).trans (heap_alloc_new _ _)
  have Y0 : W.heap[w.heap.size + 1]? = some (.cells #[.int .i64 0, .int .i64 0, .string ⟨#[]⟩, .slice none 0 0] 40 (0, 0)) := by rw [hW]; exact (congrArg _ (by simp)).trans (heap_alloc_new _ _)
  have hY := Lib.hid Y0
  have lW := heap_lt Y0
  have hx0 := heap_lt X0
  obtain ⟨x0, x1, x2, x3⟩ := box4 X0
  go_enter Try.func39, Try.ntmps39
  go_upto_region 1 with fail
  rw [← hW]
  clear hW X0 Y0 h hp hv
  have hbx := BX.out
  go_region_law (go_simp; go_at_call 48; (with_reducible refine (CI.out _ (by (repeat (first | (with_reducible assumption) | (with_reducible refine Below.drew ?_))))).mono ?_); rintro e w5 ⟨⟨v5, rfl, hv5⟩, h5⟩; have hag := hv5.agg; obtain ⟨e0, e1, e2, B0, n0', d0', rfl⟩ := hag; have Y5 := (h5.block (w.heap.size + 1) lW).trans hY.out; obtain ⟨y0, y1, y2, y3⟩ := box4 Y5; have yl5 := heap_lt Y5; have yf := unfrozen Y5)
  all_goals
    have HV5 := Lib.hid hv5
    have HY5 := Lib.hid Y5
    have H5 := Lib.hid h5
    clear hv5 Y5 h5
    go_wp2_with fail
    have P := box_put4 HY5.out (.int .i64 e0) (.int .i64 e1) (.string e2) (.slice B0 n0' d0') rfl
    obtain ⟨p0, p1, p2, p3⟩ := box4 P.1
    refine bodyPost_ret (v := .agg #[.int .i64 e0, .int .i64 e1, .string e2, .slice B0 n0' d0']) (by simp [results, go_sem, p0, p1, p2, p3]) rfl ?_
    exact ⟨⟨_, rfl, (HV5.out.keep fun b cs f hS hh => ⟨(P.2.2.1 b (by have h9 : b < w.heap.size ∨ W.heap.size ≤ b := hS; omega)).trans hh, trivial⟩)⟩, P.2.2.2 _ _ (by omega) (BX.out.drew.trans (H5.out.mono BX.out.size))⟩
/-- The box written at one of the state's cells. -/
theorem RM.write {w : World} {B rb : Nat} {p : PV} {Ps : List PV} (h : RM w B rb p Ps) (i : Nat) (v : Value) (p' : PV) (hi : ∀ (m : Value), (#[.int .i64 (p.n : Int), .slice p.LA p.ln p.lc, .slice p.AA p.am p.ac, m] : Array Value).setIfInBounds i v = #[.int .i64 (p'.n : Int), .slice p'.LA p'.ln p'.lc, .slice p'.AA p'.am p'.ac, m]) :
    RM (w.setCell ⟨rb, i, none⟩ v) B rb p' Ps ∧ RF B rb w (w.setCell ⟨rb, i, none⟩ v) := by
  obtain ⟨MA, mc, h0, h1⟩ := h.ex
  have hb := blk_set h0 i v
  rw [hi] at hb
  have far : ∀ (k : Nat) (o : Obj), w.heap[k]? = some o → NotRf rb k o → (w.setCell ⟨rb, i, none⟩ v).heap[k]? = some o := fun k o hk hn => by
    refine (Below.heap_setCell _ _ _ k ?_).trans hk
    rintro rfl
    rw [h0] at hk
    injection hk with hk
    exact (hn _ _ _ hk.symm).1 rfl rfl
  refine ⟨⟨⟨MA, mc, hb, own_keep h1 fun g hg => ?_⟩, h.ge⟩, (Below.refl _ _).setCell (p := ⟨rb, i, none⟩) h.ge v, far⟩
  obtain ⟨cs, f, hh⟩ := Go.Lib.ownsRow_kind h1 g hg
  refine Below.heap_setCell _ _ _ g ?_
  rintro rfl
  rw [h0] at hh
  injection hh with hh
  injection hh with _ hh
  exact absurd hh (by decide)
/-- What the reference's Unify comes to. -/
def RUP (r : Res) (L : Bs) (As : List T) (w : World) (B rb : Nat) (Ps : List PV) (e : Ending) (w' : World) : Prop := (match r with
  | .ok L1 _ => ∃ v Ns p', L1 = L ++ Ns ∧ e = .returned (.tuple #[v, .int .i64 0]) ∧ IRow w' v (Ns.map Prod.fst) ∧ RM w' B rb p' Ps ∧ PA w' p' L1 As
  | .many => e = .returned (.tuple #[.slice none 0 0, .int .i64 34]) ∧ ∃ p', RM w' B rb p' Ps ∧ PA w' p' L As
  | .unlike => e = .returned (.tuple #[.slice none 0 0, .int .i64 80]) ∧ ∃ p', RM w' B rb p' Ps ∧ PA w' p' L As) ∧ RF B rb w w'
set_option maxRecDepth 100000 in
set_option maxHeartbeats 8000000 in
theorem runify9_no {w : World} {B rb : Nat} {p : PV} {Ps : List PV} (h : RM w B rb p Ps) {ta tb : T} {va vb : Value} (ha : TP w (fun _ => True) ta va) (hb : TP w (fun _ => True) tb vb) (oa : ta.ok) (ob : tb.ok)
    (hno : ¬ (allV ta (p.n : Int) ∧ allV tb (p.n : Int))) :
    Calls Try.prog 32 #[.pointer (some ⟨rb, 0, none⟩), va, vb] w fun e w' => e = .returned (.tuple #[.slice none 0 0, .int .i64 1]) ∧ Below w.heap.size w w' := by
  obtain ⟨k0, k1, k2, A0, m0, c0, rfl⟩ := ha.agg
  obtain ⟨j0, j1, j2, B0, n0, d0, rfl⟩ := hb.agg
  have B2 := Lib.hid (belS (belS (Below.refl w.heap.size w) (Obj.cells #[.int .i64 k0, .int .i64 k1, .string k2, .slice A0 m0 c0] 40)) (Obj.cells #[.int .i64 j0, .int .i64 j1, .string j2, .slice B0 n0 d0] 40))
  have CA := Lib.hid (rknown9_any (h.below B2.out) (ha.below B2.out) oa)
  have CB := Lib.hid (fun (W : World) (hW : Below w.heap.size w W) => rknown9_any (h.below hW) (hb.below hW) ob)
  have Y0 := Lib.hid (show ((w.alloc (Obj.cells #[.int .i64 k0, .int .i64 k1, .string k2, .slice A0 m0 c0] 40)).alloc (Obj.cells #[.int .i64 j0, .int .i64 j1, .string j2, .slice B0 n0 d0] 40)).heap[w.heap.size + 1]? = some (.cells #[.int .i64 j0, .int .i64 j1, .string j2, .slice B0 n0 d0] 40 (0, 0)) from
    (congrArg _ (by simp)).trans (heap_alloc_new _ _))
  have HNO := Lib.hid hno
  clear h ha hb hno
  go_enter Try.func32, Try.ntmps32
  go_wp2_with fail
  refine CA.out.mono ?_
  rintro e w5 ⟨⟨b, rfl, hb⟩, h5⟩
  have BB := Lib.hid hb
  have H5 := Lib.hid (B2.out.trans (h5.mono B2.out.size))
  have hy := (h5.block _ (heap_lt Y0.out)).trans Y0.out
  obtain ⟨y0, y1, y2, y3⟩ := box4 hy
  have hyl := heap_lt hy
  clear hb h5 hy CA
  cases b with
  | false =>
    go_wp2_with fail
    go_ret2
    exact ⟨rfl, H5.out⟩
  | true =>
    have hq := Lib.hid (show ¬ allV tb (p.n : Int) from fun hb => HNO.out ⟨BB.out.mp rfl, hb⟩)
    go_wp2_with fail
    refine (CB.out _ H5.out).mono ?_
    rintro e w6 ⟨⟨b, rfl, hb⟩, h6⟩
    have H6 := Lib.hid (H5.out.trans (h6.mono H5.out.size))
    obtain rfl : b = false := by
      cases b with
      | false => rfl
      | true => exact absurd (hb.mp rfl) hq.out
    clear hb h6 CB
    go_wp2_with fail
    go_ret2
    exact ⟨rfl, H6.out⟩
set_option maxRecDepth 100000 in
set_option maxHeartbeats 8000000 in
theorem runify9_any {w : World} {B rb : Nat} {p : PV} {Ps : List PV} {L : Bs} {As : List T} (h : RM w B rb p Ps) (hp : PA w p L As) {ta tb : T} {va vb : Value} (ha : TP w (fun _ => True) ta va) (hb : TP w (fun _ => True) tb vb) (oa : ta.ok) (ob : tb.ok)
    (ka : allV ta (p.n : Int)) (kb : allV tb (p.n : Int)) :
    Calls Try.prog 32 #[.pointer (some ⟨rb, 0, none⟩), va, vb] w fun e w' => RUP (uniF 2000 L [(ta, tb)]) L As w B rb Ps e w' := by
  obtain ⟨k0, k1, k2, A0, m0, c0, rfl⟩ := ha.agg
  obtain ⟨j0, j1, j2, B0, n0, d0, rfl⟩ := hb.agg
  have B2 := Lib.hid (belS (belS (Below.refl w.heap.size w) (Obj.cells #[.int .i64 k0, .int .i64 k1, .string k2, .slice A0 m0 c0] 40)) (Obj.cells #[.int .i64 j0, .int .i64 j1, .string j2, .slice B0 n0 d0] 40))
  have CA := Lib.hid (rknown9_any (h.below B2.out) (ha.below B2.out) oa)
  have CB := Lib.hid (fun (W : World) (hW : Below w.heap.size w W) => rknown9_any (h.below hW) (hb.below hW) ob)
  have X0 := Lib.hid (show ((w.alloc (Obj.cells #[.int .i64 k0, .int .i64 k1, .string k2, .slice A0 m0 c0] 40)).alloc (Obj.cells #[.int .i64 j0, .int .i64 j1, .string j2, .slice B0 n0 d0] 40)).heap[w.heap.size]? = some (.cells #[.int .i64 k0, .int .i64 k1, .string k2, .slice A0 m0 c0] 40 (0, 0)) from
    (Below.heap_alloc _ _ _ (by simp)).trans (heap_alloc_new _ _))
  have Y0 := Lib.hid (show ((w.alloc (Obj.cells #[.int .i64 k0, .int .i64 k1, .string k2, .slice A0 m0 c0] 40)).alloc (Obj.cells #[.int .i64 j0, .int .i64 j1, .string j2, .slice B0 n0 d0] 40)).heap[w.heap.size + 1]? = some (.cells #[.int .i64 j0, .int .i64 j1, .string j2, .slice B0 n0 d0] 40 (0, 0)) from
    (congrArg _ (by simp)).trans (heap_alloc_new _ _))
  have H := Lib.hid h
  have HP := Lib.hid hp
  have HA := Lib.hid ha
  have HB := Lib.hid hb
  have KA := Lib.hid ka
  have KB := Lib.hid kb
  have hBw : B ≤ w.heap.size := by obtain ⟨_, _, _, _, _, _, _, hl, _, _⟩ := h.box; have := h.ge; omega
  clear h ha hb hp ka kb
  go_enter Try.func32, Try.ntmps32
  go_wp2_with fail
  refine CA.out.mono ?_
  rintro e w5 ⟨⟨b, rfl, hb⟩, h5⟩
  obtain rfl := hb.mpr KA.out
  have H5 := Lib.hid (B2.out.trans (h5.mono B2.out.size))
  have hx := (h5.block _ (heap_lt X0.out)).trans X0.out
  have hy := (h5.block _ (heap_lt Y0.out)).trans Y0.out
  have HX5 := Lib.hid hx
  have HY5 := Lib.hid hy
  obtain ⟨y0, y1, y2, y3⟩ := box4 hy
  have hyl := heap_lt hy
  clear hb h5 hx hy CA X0 Y0
  go_wp2_with fail
  refine (CB.out _ H5.out).mono ?_
  rintro e w6 ⟨⟨b, rfl, hb⟩, h6⟩
  obtain rfl := hb.mpr KB.out
  have H6 := Lib.hid (H5.out.trans (h6.mono H5.out.size))
  have hx := (h6.block _ (heap_lt HX5.out)).trans HX5.out
  have hy := (h6.block _ (heap_lt HY5.out)).trans HY5.out
  clear y0 y1 y2 y3 hyl
  obtain ⟨x0, x1, x2, x3⟩ := box4 hx
  obtain ⟨y0, y1, y2, y3⟩ := box4 hy
  have hxl := heap_lt hx
  have hyl := heap_lt hy
  have R6 := Lib.hid (H.out.below H6.out)
  have P6 := Lib.hid (HP.out.below H6.out)
  obtain ⟨MA, mc, b0, b1, b2, b3, _, hbl, _, _⟩ := R6.out.box
  have BE := Lib.hid (belS (Below.refl w6.heap.size w6) (Obj.cells #[.slice p.LA p.ln p.lc] 85))
  have CU := Lib.hid (runify_any (w := w6.alloc (Obj.cells #[.slice p.LA p.ln p.lc] 85)) (rb := w6.heap.size) (L := L) ⟨⟨p.LA, p.lc, by rw [← P6.out.ln]; exact heap_alloc_new _ _, P6.out.bl.below BE.out⟩, P6.out.ok⟩ (HA.out.below (H6.out.trans (BE.out.mono H6.out.size))) (HB.out.below (H6.out.trans (BE.out.mono H6.out.size))) oa ob)
  clear hb h6 hx hy CB HX5 HY5
  go_wp2_with fail
  refine CU.out.mono ?_
  rintro e w7 ⟨hres, hbut⟩
  have BW7 := Lib.hid (show Below w6.heap.size w6 w7 from BE.out.trans (hbut.below (Nat.le_refl _) BE.out.size))
  have R7 := Lib.hid (R6.out.below BW7.out)
  have P7 := Lib.hid (P6.out.below BW7.out)
  have F7 := Lib.hid (show RF B rb w w7 from RF.below hBw (H6.out.trans (BW7.out.mono H6.out.size)))
  obtain ⟨MA', mc', z0, z1, z2, z3, zf, hzl, _, _⟩ := R7.out.box
  clear hbut x0 x1 x2 x3 y0 y1 y2 y3 hxl hyl b0 b1 b2 b3 hbl CU
  have WR := Lib.hid (fun (A : Option Addr) (n c : Nat) => R7.out.write 1 (.slice A n c) ⟨p.n, A, n, c, p.AA, p.am, p.ac⟩ (fun m => rfl))
  have hbig := Lib.hid (show ∀ (A : Option Addr) (c : Nat) (L1 : Bs) (nl : Nat), BL w7 A c L1 → EnvOk L1 → L1.length = nl → ∃ W p', W = w7.setCell ⟨rb, 1, none⟩ (.slice A nl c) ∧ RM W B rb p' Ps ∧ PA W p' L1 As ∧ RF B rb w W ∧ RF B rb w7 W from fun A c L1 nl hb hk hnl => by
    subst hnl
    obtain ⟨h1, h2⟩ := WR.out A L1.length c
    have hp2 := P7.out.rf h2
    obtain ⟨ts, a1, a2⟩ := hp2.at_
    have hbl := (show PA w7 ⟨p.n, A, L1.length, c, p.AA, p.am, p.ac⟩ L1 As from ⟨P7.out.n, rfl, P7.out.am, hb, hk, P7.out.at_⟩).rf h2
    exact ⟨_, _, rfl, h1, hbl, F7.out.trans h2, h2⟩)
  obtain ⟨r, hr⟩ : ∃ r, uniF 2000 L [(ta, tb)] = r := ⟨_, rfl⟩
  rw [hr] at hres
  have HR := Lib.hid hr
  clear hr
  cases r with
  | ok L1 f1 =>
    obtain ⟨v, Ns, rfl, rfl, hi, ⟨A9, c9, hb9, hbl9⟩, ho9⟩ := hres
    obtain ⟨A5, c5, rfl, _⟩ := hi.open_
    rw [List.length_append] at hb9
    have e0 := cell_of_row w7 w6.heap.size 0 _ _ _ hb9
    have el := heap_lt hb9
    rw [List.length_map] at hi
    have HI := Lib.hid hi
    obtain ⟨W, p', hW, hRM, hPA, hRF, hRF7⟩ := hbig.out A9 c9 _ _ hbl9 ho9 List.length_append
    have HWW := Lib.hid hW
    have G1 := Lib.hid hRM
    have G2 := Lib.hid hPA
    have G3 := Lib.hid hRF
    have G4 := Lib.hid hRF7
    clear hi hb9 hbl9 ho9 hW hRM hPA hRF hRF7
    go_wp2_with fail
    go_ret2
    rw [HR.out]
    rw [← HWW.out]
    refine ⟨⟨_, Ns, p', rfl, rfl, ?_, G1.out, G2.out⟩, G3.out⟩
    exact own_keep HI.out fun g hg => by
      obtain ⟨cs, f, hh⟩ := Go.Lib.ownsRow_kind HI.out g hg
      exact (G4.out.far g _ hh (notRf_of (by decide))).trans hh.symm
  | many =>
    obtain ⟨rfl, ⟨A9, c9, hb9, hbl9⟩, ho9⟩ := hres
    have e0 := cell_of_row w7 w6.heap.size 0 _ _ _ hb9
    have el := heap_lt hb9
    obtain ⟨W, p', hW, hRM, hPA, hRF, _⟩ := hbig.out A9 c9 _ _ hbl9 ho9 rfl
    have HWW := Lib.hid hW
    have G1 := Lib.hid hRM
    have G2 := Lib.hid hPA
    have G3 := Lib.hid hRF
    clear hb9 hbl9 ho9 hW hRM hPA hRF
    go_wp2_with fail
    go_ret2
    rw [HR.out]
    rw [← HWW.out]
    exact ⟨⟨rfl, p', G1.out, G2.out⟩, G3.out⟩
  | unlike =>
    obtain ⟨rfl, ⟨A9, c9, hb9, hbl9⟩, ho9⟩ := hres
    have e0 := cell_of_row w7 w6.heap.size 0 _ _ _ hb9
    have el := heap_lt hb9
    obtain ⟨W, p', hW, hRM, hPA, hRF, _⟩ := hbig.out A9 c9 _ _ hbl9 ho9 rfl
    have HWW := Lib.hid hW
    have G1 := Lib.hid hRM
    have G2 := Lib.hid hPA
    have G3 := Lib.hid hRF
    clear hb9 hbl9 ho9 hW hRM hPA hRF
    go_wp2_with fail
    go_ret2
    rw [HR.out]
    rw [← HWW.out]
    exact ⟨⟨rfl, p', G1.out, G2.out⟩, G3.out⟩
end Go.Proofs.Ytgoedlbdnmhppaa
