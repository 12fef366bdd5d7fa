/- The walk through write.list: a list's elements, then its rest. -/
import Derived.Test.YtiefbdblefliaaaDoorWrw
import Derived.Test.YtiefbdblefliaaaDoorTL
namespace Go.Proofs.YtiefbdblefliaaaDoor
open Go.RowKit

theorem restB_congr {f g : Nat → List UInt8} : ∀ (r j : Nat), (∀ i, i < j + r → f i = g i) → restB f j r = restB g j r
  | 0, _, _ => rfl
  | r + 1, j, h => by
    simp only [restB]
    rw [h j (by omega), restB_congr r (j + 1) fun i hi => h i (by omega)]
theorem partB_congr {f g : Nat → List UInt8} {m : Nat} (h : ∀ i, i < m → f i = g i) : partB f m = partB g m := by
  cases m with
  | zero => rfl
  | succ m => simp only [partB]; rw [h 0 (by omega), restB_congr m 1 fun i hi => h i (by omega)]
/-- Terms' texts with commas between. -/
def txL (nm : List ByteArray) (ts : List T) : List UInt8 := partB (fun i => (txB (nmV nm) (ts.getD i .nil)).1) ts.length
theorem txL_one (nm : List ByteArray) (x : T) : txL nm [x] = (txB (nmV nm) x).1 := by
  show partB _ 1 = _
  rw [partB_one]
  rfl
theorem txL_snoc (nm : List ByteArray) {ts : List T} (h : ts ≠ []) (x : T) : txL nm (ts ++ [x]) = txL nm ts ++ 44 :: (txB (nmV nm) x).1 := by
  obtain ⟨i, hi⟩ : ∃ i, ts.length = i + 1 := ⟨ts.length - 1, by have := List.length_pos_iff.2 h; omega⟩
  unfold txL
  have e1 : (ts ++ [x]).length = i + 2 := by rw [List.length_append, hi]; rfl
  have e2 : (ts ++ [x]).getD (i + 1) .nil = x := by simp [← hi]
  rw [e1, partB_succ, e2, hi]
  congr 1
  refine partB_congr fun j hj => ?_
  simp only [List.getD_eq_getElem?_getD]
  rw [List.getElem?_append_left (by omega)]
/-- What has been read of a list: its elements, and what is left. -/
def SpK (nm : List ByteArray) (t : T) (full : List UInt8) (ts : List T) (u : T) : Prop :=
  u.wr ∧ u.fit ∧ (∀ x ∈ ts, x.wr ∧ x.fit ∧ x.nodes < t.nodes) ∧ ts.length + u.nodes ≤ t.nodes ∧ ((ts = [] ∧ u = t) ∨ (ts ≠ [] ∧ u.nodes < t.nodes ∧ 91 :: (txL nm ts ++ ((txB (nmV nm) u).2 ++ [93])) = full))
theorem spk_step {nm : List ByteArray} {t : T} {full : List UInt8} {ts : List T} {n : Int} {b : Nat → T} (hf : (txB (nmV nm) t).1 = full) (h : SpK nm t full ts (.mk 4 n dotS 2 b)) : SpK nm t full (ts ++ [b 0]) (b 1) ∧ (b 1).nodes < (T.mk 4 n dotS 2 b).nodes := by
  obtain ⟨h1, h2, h3, h4, h5⟩ := h
  have hw := (wr_cmp h1).2.2
  have hN : (b 0).nodes + (b 1).nodes + 1 = (T.mk 4 n dotS 2 b).nodes := by simp only [T.nodes, sumTo]; omega
  have p0 := wr_pos (hw 0 (by omega))
  have p1 := wr_pos (hw 1 (by omega))
  have hle : (T.mk 4 n dotS 2 b).nodes ≤ t.nodes := by omega
  refine ⟨⟨hw 1 (by omega), h2.2.2 1 (by omega), fun x hx => ?_, by rw [List.length_append]; simp only [List.length_cons, List.length_nil]; omega, .inr ⟨by simp, by omega, ?_⟩⟩, by omega⟩
  · rcases List.mem_append.1 hx with hx | hx
    · exact h3 x hx
    · obtain rfl : x = b 0 := by simpa using hx
      exact ⟨hw 0 (by omega), h2.2.2 0 (by omega), by omega⟩
  · rcases h5 with ⟨rfl, rfl⟩ | ⟨hne, _, h5⟩
    · rw [List.nil_append, txL_one, ← hf, tx_pair]
    · rw [txL_snoc nm hne, ← h5, tx_pair]
      simp
theorem spk_row {w : World} {B' S : Nat} {v : Value} {qs : List Q6} {ts : List T} (ho : w.ownsRow B' 24 4 v qs.length (qCells qs)) (hl : qs.length = ts.length) (hg : ∀ i (h : i < qs.length), GT w S (ts.getD i .nil) (qs[i]'h).val) : RwT w S ts.length (fun i => ts.getD i .nil) v := by
  obtain ⟨A, c, rfl, hc, hA, _, hx⟩ := own_open ho
  rw [hl]
  refine ⟨A, c, rfl, by omega, hA, fun h0 => ?_⟩
  obtain ⟨g, cur, rfl, _, hh, hcur⟩ := hx (by omega)
  refine ⟨g, 0, rfl, heap_lt hh, .inr ⟨_, hh⟩, fun i hi => ?_⟩
  have hi' : i < qs.length := by omega
  have hc' : ∀ j, j < 4 → w.cell? ⟨g, 0 + i * 4 + j, none⟩ = (qs[i]).cells[j]? := fun j hj => by
    rw [Nat.zero_add, cell_of_row w g (i * 4 + j) _ _ _ hh, hcur _ (by omega)]
    exact qCells_at qs i hi' j hj
  exact ⟨_, _, _, _, _, _, hc' 0 (by omega), hc' 1 (by omega), hc' 2 (by omega), hc' 3 (by omega), hg i hi'⟩
theorem spk_push {w w' w2 : World} {S : Nat} {qs : List Q6} {ts : List T} {q : Q6} {x : T} (hg : ∀ i (h : i < qs.length), GT w S (ts.getD i .nil) (qs[i]'h).val) (hl : qs.length = ts.length) (hx : GT w' S x q.val) (h1 : Below S w w2) (h2 : Below S w' w2) :
    ∀ i (h : i < (qs ++ [q]).length), GT w2 S ((ts ++ [x]).getD i .nil) ((qs ++ [q])[i]'h).val := fun i h => by
  by_cases hi : i < qs.length
  · rw [List.getElem_append_left hi, List.getD_eq_getElem?_getD, List.getElem?_append_left (by omega), ← List.getD_eq_getElem?_getD]
    exact (hg i hi).low (Nat.le_refl _) h1
  · obtain rfl : i = qs.length := by simp at h; omega
    have e : (ts ++ [x]).getD qs.length .nil = x := by simp [hl]
    rw [e]
    simpa using hx.low (Nat.le_refl _) h2
set_option maxRecDepth 100000 in
set_option maxHeartbeats 8000000 in
theorem wlist_any {nm : List ByteArray} {B b S : Nat} {nv : Value} {n : Int} {a : Nat → T} (hw : (T.mk 4 n dotS 2 a).wr) (hf : (T.mk 4 n dotS 2 a).fit) (h5 : (T.mk 4 n dotS 2 a).nodes ≤ 5000) (ih : ∀ t : T, t.nodes < (T.mk 4 n dotS 2 a).nodes → t.wr → t.fit → WtC nm B b nv S t)
    (l : List UInt8) (v : Value) (w : World) (hv : GT w S (.mk 4 n dotS 2 a) v) (h : IsW B b nv (Lib.byteCells l) w) (hE : We B S nm nv w) (hl : l.length + (txB (nmV nm) (.mk 4 n dotS 2 a)).1.length ≤ 1000000000000) :
    Calls Tryd.prog 41 #[.pointer (some ⟨b, 0, none⟩), v] w fun e w' => WrP B b nv (l ++ (txB (nmV nm) (.mk 4 n dotS 2 a)).1) w e w' := by
  obtain ⟨k', n', s', A, m', c, rfl⟩ := hv.agg
  have HV := Lib.hid hv
  have HW := Lib.hid h
  have HE := Lib.hid hE
  have IH := Lib.hid ih
  have hBl := h.le
  have hSB := hE.hS
  obtain ⟨t, ht⟩ : ∃ t, T.mk 4 n dotS 2 a = t := ⟨_, rfl⟩
  obtain ⟨full, hfull⟩ : ∃ full, (txB (nmV nm) t).1 = full := ⟨_, rfl⟩
  have SP0 := Lib.hid (show SpK nm t full [] t from ht ▸ ⟨hw, hf, by simp, by simp, .inl ⟨rfl, rfl⟩⟩)
  have HT := Lib.hid ht
  have HFU := Lib.hid hfull
  rw [ht] at HV IH h5 hl ⊢
  rw [hfull] at hl ⊢
  have BX := Lib.hid (belA (Below.refl w.heap.size w) (Obj.cells #[.int .i64 k', .int .i64 n', .string s', .slice A m' c] 24))
  have XB := Lib.hid (heap_alloc_new w (Obj.cells #[.int .i64 k', .int .i64 n', .string s', .slice A m' c] 24))
  clear hv h hE ih ht hfull hw hf
  go_enter Tryd.func41, Tryd.ntmps41
  go_wp2_with fail
  go_loopg [4] t.nodes (fun gk lv wr => ∃ (qs : List Q6) (ts : List T) (u : T) (q0 q1 : Int) (q2 : ByteArray) (q3 : Option Addr) (q4 q5 : Nat), wr.ownsRow (w.heap.size + 1) 24 4 lv qs.length (qCells qs) ∧ Hid (qs.length = ts.length ∧ (∀ i (h : i < qs.length), GT wr S (ts.getD i .nil) (qs[i]'h).val) ∧ SpK nm t full ts u ∧ u.nodes ≤ gk) ∧ Below w.heap.size w wr ∧ wr.heap[w.heap.size]? = some (.cells #[.int .i64 q0, .int .i64 q1, .string q2, .slice q3 q4 q5] 24 (0, 0)) ∧ GT wr S u (.agg #[.int .i64 q0, .int .i64 q1, .string q2, .slice q3 q4 q5]))
  case atStart => exact ⟨[], [], t, _, _, _, _, _, _, World.ownsRow_nil _ _ _ _, Lib.hid ⟨rfl, fun i h => absurd h (by simp), SP0.out, Nat.le_refl _⟩, BX.out, XB.out, HV.out.below BX.out⟩
  case round =>
    obtain ⟨qs, ts, u, q0, q1, q2, q3, q4, q5, ho, hh, hb, hx, hu⟩ := hrel
    have HO := Lib.hid ho
    have HH := Lib.hid hh.out
    have BR := Lib.hid hb
    have XR := Lib.hid hx
    have UR := Lib.hid hu
    obtain ⟨r0, r1, r2, r3⟩ := box4t hx
    have hxr := heap_lt hx
    have CP := Lib.hid (islist_any q0 q1 q2 q3 q4 q5 wr)
    obtain ⟨lA, lc, rfl, hlc, hlA, _⟩ := own_open ho
    clear hh hb hx hu ho BX XB
    cases u with
    | nil => exact HH.out.2.2.1.1.elim
    | mk p0 p1 p2 p4 d =>
      obtain ⟨e0, e1, e2, rfl, _, _, _⟩ := UR.out.args
      injection e0 with _ e0
      injection e1 with _ e1
      injection e2 with e2
      subst e0; subst e1; subst e2
      cases hpr : isPr q0 q2 q4 with
      | true =>
        obtain ⟨rfl, rfl, rfl⟩ := isPr_iff.1 hpr
        rw [hpr] at CP
        have SP := Lib.hid (spk_step HFU.out HH.out.2.2.1)
        have hqs : qs.length ≤ 5000 := by
          have h1 := HH.out.1
          have h2 := HH.out.2.2.1.2.2.2.1
          omega
        obtain ⟨_, _, _, _, _, _, hargs⟩ := UR.out.args
        obtain ⟨g3, o3, k0, k1, k2, A0, m0, c0, rfl, hgS3, hgl3, d0, d1, d2, d3, ht0⟩ := hargs 0 (by omega)
        obtain ⟨g', o', j0, j1, j2, A1, m1, c1, hA', _, _, f0, f1, f2, f3, ht1⟩ := hargs 1 (by omega)
        injection hA' with hA'
        injection hA' with hA1 hA2
        subst hA1; subst hA2
        have T1 := Lib.hid ht1
        have T0 := Lib.hid ht0
        have GC := Lib.hid (show ∀ W, Below w.heap.size wr W → (W.cell? ⟨g3, o3, none⟩ = some (.int .i64 k0) ∧ W.cell? ⟨g3, o3 + 1, none⟩ = some (.int .i64 k1) ∧ W.cell? ⟨g3, o3 + 2, none⟩ = some (.string k2) ∧ W.cell? ⟨g3, o3 + 3, none⟩ = some (.slice A0 m0 c0)) ∧ W.cell? ⟨g3, o3 + 4, none⟩ = some (.int .i64 j0) ∧ W.cell? ⟨g3, o3 + 5, none⟩ = some (.int .i64 j1) ∧ W.cell? ⟨g3, o3 + 6, none⟩ = some (.string j2) ∧ W.cell? ⟨g3, o3 + 7, none⟩ = some (.slice A1 m1 c1) from fun W hb =>
          have hg : g3 < w.heap.size := by omega
          ⟨⟨(hb.cell (p := ⟨g3, _, none⟩) hg).trans (by simpa using d0), (hb.cell (p := ⟨g3, _, none⟩) hg).trans (by simpa using d1), (hb.cell (p := ⟨g3, _, none⟩) hg).trans (by simpa using d2), (hb.cell (p := ⟨g3, _, none⟩) hg).trans (by simpa using d3)⟩, (hb.cell (p := ⟨g3, _, none⟩) hg).trans (by simpa using f0), (hb.cell (p := ⟨g3, _, none⟩) hg).trans (by simpa [Nat.add_assoc] using f1), (hb.cell (p := ⟨g3, _, none⟩) hg).trans (by simpa [Nat.add_assoc] using f2), (hb.cell (p := ⟨g3, _, none⟩) hg).trans (by simpa [Nat.add_assoc] using f3)⟩)
        have hgw : g3 < w.heap.size := by omega
        clear hpr hargs ht0 ht1 d0 d1 d2 d3 f0 f1 f2 f3
        go_wp2_with fail
        refine CP.out.mono ?_
        rintro e w3 ⟨rfl, hb3⟩
        have hs3 := hb3.size
        have R3 := Lib.hid hb3
        have X3 := Lib.hid ((hb3.block _ hxr).trans XR.out)
        obtain ⟨x0, x1, x2, x3⟩ := box4t X3.out
        have O3 := Lib.hid (own_below HO.out hb3)
        obtain ⟨⟨d0, d1, d2, d3⟩, f0, f1, f2, f3⟩ := GC.out w3 (hb3.mono (by omega))
        have hg3 : g3 < w3.heap.size := by omega
        have BA := Lib.hid (Below.alloc (Below.refl w3.heap.size w3) (Nat.le_refl _) (Obj.cells #[.int .i64 k0, .int .i64 k1, .string k2, .slice A0 m0 c0] 24))
        have O4 := Lib.hid (own_below O3.out BA.out)
        clear hb3 CP r0 r1 r2 r3
        go_wp2_with (at_builtin; go_must (refine wpList_append_at _ rfl _ _ _ rfl elTerm (w.heap.size + 1) _ qs.length (qCells qs) rfl O4.out (some ⟨w3.heap.size, 0, none⟩) 1 1 (qCells [⟨k0, k1, k2, A0, m0, c0⟩]) rfl (fun h => by cases h) (Nat.le_refl _) (by rw [qCells_length]; rfl) (fun _ => ⟨_, 0, rfl, fun j u hu => ?_⟩) (qCells_small _) (by omega) (by unfold maxLen; omega) (by simp; omega) ?_))
        · rw [Nat.zero_add, cell_of_row _ _ j _ _ _ (heap_alloc_new _ _)]
          simpa [qCells, Q6.cells] using hu
        intro v4 w4 hown hg hat
        have hob : ∀ k, (Value.slice lA qs.length lc).ownBlock = some k → w.heap.size + 1 ≤ k := fun k hk => (HO.out.lt k hk).1
        have X4 := Lib.hid ((hg.block w.heap.size (by simp; omega) (fun e => by have := hob _ e.symm; omega)).trans ((BA.out.block _ (by omega)).trans X3.out))
        have D4 := Lib.hid (Below.grown ((R3.out.mono BR.out.size).trans (BA.out.mono (by omega))) hg (by simp; omega) (fun k hk => by have := hob k hk; omega))
        have B4 := Lib.hid (BR.out.trans D4.out)
        have HL4 := Lib.hid (show v4.ownBlock ≠ some w.heap.size from fun e => by have := (hown.lt _ e).1; omega)
        have hown' : w4.ownsRow (w.heap.size + 1) 24 4 v4 (qs.length + 1) (qCells (qs ++ [⟨k0, k1, k2, A0, m0, c0⟩])) := by rw [← qCells_app]; exact hown
        have O5 := Lib.hid hown'
        have PU := Lib.hid (box_put4 X4.out (.int .i64 j0) (.int .i64 j1) (.string j2) (.slice A1 m1 c1) rfl)
        obtain ⟨y0, y1, y2, y3⟩ := box4t X4.out
        have z4 : ∀ j, w4.frozen? ⟨w.heap.size, j, none⟩ = false := fun j => by simp [World.frozen?, X4.out]
        have hx4 := heap_lt X4.out
        have hs4 := D4.out.size
        have hg4 : g3 < w4.heap.size := by omega
        have D5 := Lib.hid (PU.out.2.2.2 _ _ (Nat.le_refl _) D4.out)
        have hSw : S ≤ w.heap.size := by omega
        have GT5 := Lib.hid (spk_push (q := ⟨k0, k1, k2, A0, m0, c0⟩) HH.out.2.1 HH.out.1 T0.out (D5.out.mono hSw) (D5.out.mono hSw))
        have T5 := Lib.hid (T1.out.low hSw D5.out)
        have B5 := Lib.hid (PU.out.2.2.2 _ _ (Nat.le_refl _) B4.out)
        clear hown hown' hg hat x0 x1 x2 x3 d0 d1 d2 d3 f0 f1 f2 f3
        obtain ⟨⟨d0, d1, d2, d3⟩, f0, f1, f2, f3⟩ := GC.out w4 D4.out
        go_wp2_with fail
        go_roundg (d 1).nodes
        case rel =>
          refine ⟨qs ++ [⟨k0, k1, k2, A0, m0, c0⟩], ts ++ [d 0], d 1, _, _, _, _, _, _, ?_, Lib.hid ⟨by simp [HH.out.1], ?_, SP.out.1, Nat.le_refl _⟩, B5.out, PU.out.1, ?_⟩
          · rw [List.length_append]
            exact own_keep O5.out fun g hg => PU.out.2.2.1 g fun e => HL4.out (by rw [hg, e])
          · exact GT5.out
          · exact T5.out
        case measure => have h1 := SP.out.2; have h2 := HH.out.2.2.2; omega
      | false =>
        rw [hpr] at CP
        have hnp : ¬ (q0 = 4 ∧ q2 = dotS ∧ q4 = 2) := fun h => by
          rw [isPr_iff.2 h] at hpr
          cases hpr
        have HNP := Lib.hid hnp
        have SK := Lib.hid (show ts ≠ [] ∧ (T.mk q0 q1 q2 q4 d).nodes < t.nodes ∧ 91 :: (txL nm ts ++ ((txB (nmV nm) (T.mk q0 q1 q2 q4 d)).2 ++ [93])) = full from by
          rcases HH.out.2.2.1.2.2.2.2 with ⟨_, h⟩ | h
          · rw [← HT.out] at h
            injection h with h1 _ h2 h3 _
            exact absurd ⟨h1, h2, h3⟩ hnp
          · exact h)
        have hlen : l.length + 1 + (txL nm ts).length + (txB (nmV nm) (T.mk q0 q1 q2 q4 d)).2.length + 1 ≤ 1000000000000 := by
          have h1 := congrArg List.length SK.out.2.2
          simp only [List.length_cons, List.length_append, List.length_nil] at h1
          omega
        have HLE := Lib.hid hlen
        clear hpr hnp hlen
        go_wp2_with fail
        refine CP.out.mono ?_
        rintro e w3 ⟨rfl, hb3⟩
        have B3 := Lib.hid (BR.out.trans (hb3.mono BR.out.size))
        have X3 := Lib.hid ((hb3.block _ hxr).trans XR.out)
        have hxl3 := heap_lt X3.out
        have RT3 := Lib.hid (spk_row (own_below HO.out hb3) HH.out.1 (fun i h => (HH.out.2.1 i h).below hb3))
        have U3 := Lib.hid (UR.out.below hb3)
        have W3 := Lib.hid (HW.out.below B3.out)
        have K3 := Lib.hid (Kw.of (B := B) B3.out hBl)
        have E3 := Lib.hid (HE.out.kw K3.out)
        have C1 := Lib.hid (wrb_any B b nv l [91] ⟨#[91]⟩ w3 W3.out rfl (by have := HLE.out; simp only [List.length_cons, List.length_nil]; omega))
        clear hb3 CP r0 r1 r2 r3
        go_wp2_with fail
        refine C1.out.mono ?_
        rintro e w4 ⟨rfl, h4, k4⟩
        have K4 := Lib.hid (K3.out.trans k4)
        have X4 := Lib.hid (k4.keep _ _ _ _ X3.out (by decide) (by decide))
        have RT4 := Lib.hid (RT3.out.kw hSB k4)
        have U4 := Lib.hid (U3.out.low hSB k4.low)
        have E4 := Lib.hid (E3.out.kw k4)
        have C2 := Lib.hid (wrow_any (fun i hi => by
          have hm : ts.getD i .nil ∈ ts := by rw [List.getD_eq_getElem?_getD, List.getElem?_eq_getElem hi]; exact List.getElem_mem hi
          obtain ⟨g1, g2, g3⟩ := HH.out.2.2.1.2.2.1 _ hm
          exact IH.out _ g3 g1 g2) (by have := HH.out.2.2.1.2.2.2.1; omega) _ _ w4 h4 E4.out RT4.out (by
            have h1 := HLE.out
            show (l ++ [91]).length + (txL nm ts).length ≤ _
            simp only [List.length_append, List.length_cons, List.length_nil]; omega))
        clear h4 k4 C1
        go_wp2_with fail
        refine C2.out.mono ?_
        rintro e w5 ⟨rfl, h5, k5⟩
        have W5 := Lib.hid (show IsW B b nv (Lib.byteCells (l ++ [91] ++ txL nm ts)) w5 from h5)
        have K5 := Lib.hid (K4.out.trans k5)
        have X5 := Lib.hid (k5.keep _ _ _ _ X4.out (by decide) (by decide))
        have U5 := Lib.hid (U4.out.low hSB k5.low)
        have E5 := Lib.hid (E4.out.kw k5)
        obtain ⟨y0, y1, y2, y3⟩ := box4t X5.out
        have hx5 := heap_lt X5.out
        clear h5 k5 C2
        by_cases h3 : q0 = 3
        · subst h3
          by_cases h4 : q2.toList = [91, 93]
          · have e2 : q2 = nilS := str_ba (l := [91, 93]) (by rw [← ByteArray.toList_eq]; exact h4)
            have e6 : l ++ [91] ++ txL nm ts ++ [93] = l ++ full := by
              rw [← SK.out.2.2, e2, tx_nil]; simp
            have C3 := Lib.hid (wrb_any B b nv _ [93] ⟨#[93]⟩ w5 W5.out rfl (by have := HLE.out; simp only [List.length_append, List.length_cons, List.length_nil] at this ⊢; omega))
            have HE6 := Lib.hid e6
            have h4' : (q2.toList == [91, 93]) = true := by rw [h4]; rfl
            clear e6 e2
            go_wp2_with fail
            refine C3.out.mono ?_
            rintro e w6 ⟨rfl, h6, k6⟩
            have P := Lib.hid (show WrP B b nv (l ++ full) w (.returned (.tuple #[])) w6 from ⟨rfl, by rw [← HE6.out]; exact h6, K5.out.trans k6⟩)
            clear h6 k6 C3
            go_wp2_with fail
            go_end0
            exact P.out
          · have h4' : (q2.toList == [91, 93]) = false := beq_eq_false_iff_ne.2 h4
            have TL := Lib.hid (txt_else (nmV nm) HNP.out (fun h => h4 (by rw [h.2, ByteArray.toList_eq]; rfl)) q1 d)
            have e6 : l ++ [91] ++ txL nm ts ++ [124] ++ ((txB (nmV nm) (T.mk 3 q1 q2 q4 d)).1 ++ [93]) = l ++ full := by
              rw [← SK.out.2.2, TL.out]; simp
            have HE6 := Lib.hid e6
            have hl6 : (l ++ [91] ++ txL nm ts ++ [124]).length + (txB (nmV nm) (T.mk 3 q1 q2 q4 d)).1.length + 1 ≤ 1000000000000 := by
              have h1 := HLE.out
              rw [TL.out] at h1
              simp only [List.length_append, List.length_cons, List.length_nil] at h1 ⊢
              omega
            have C3 := Lib.hid (wrb_any B b nv _ [124] ⟨#[124]⟩ w5 W5.out rfl (by simp only [List.length_append, List.length_cons, List.length_nil] at hl6 ⊢; omega))
            have HL6 := Lib.hid hl6
            clear e6 hl6
            go_wp2_with fail
            refine C3.out.mono ?_
            rintro e w6 ⟨rfl, h6, k6⟩
            have K6 := Lib.hid (K5.out.trans k6)
            have X6 := Lib.hid (k6.keep _ _ _ _ X5.out (by decide) (by decide))
            have C4 := Lib.hid (IH.out _ SK.out.2.1 HH.out.2.2.1.1 HH.out.2.2.1.2.1 _ _ w6 (U5.out.low hSB k6.low) h6 (E5.out.kw k6) (by have := HL6.out; omega))
            have hx6 := heap_lt X6.out
            clear h6 k6 C3 y0 y1 y2 y3
            obtain ⟨y0, y1, y2, y3⟩ := box4t X6.out
            go_wp2_with fail
            refine C4.out.mono ?_
            rintro e w7 ⟨rfl, h7, k7⟩
            have K7 := Lib.hid (K6.out.trans k7)
            have C5 := Lib.hid (wrb_any B b nv _ [93] ⟨#[93]⟩ w7 h7 rfl (by have := HL6.out; simp only [List.length_append, List.length_cons, List.length_nil] at this ⊢; omega))
            clear h7 k7 C4
            go_wp2_with fail
            refine C5.out.mono ?_
            rintro e w8 ⟨rfl, h8, k8⟩
            have P := Lib.hid (show WrP B b nv (l ++ full) w (.returned (.tuple #[])) w8 from ⟨rfl, by rw [← HE6.out]; simpa using h8, K7.out.trans k8⟩)
            clear h8 k8 C5
            go_wp2_with fail
            go_end0
            exact P.out
        · have h3' : (q0 == 3) = false := beq_eq_false_iff_ne.2 h3
          have TL := Lib.hid (txt_else (nmV nm) HNP.out (fun h => h3 h.1) q1 d)
          have e6 : l ++ [91] ++ txL nm ts ++ [124] ++ ((txB (nmV nm) (T.mk q0 q1 q2 q4 d)).1 ++ [93]) = l ++ full := by
            rw [← SK.out.2.2, TL.out]; simp
          have HE6 := Lib.hid e6
          have hl6 : (l ++ [91] ++ txL nm ts ++ [124]).length + (txB (nmV nm) (T.mk q0 q1 q2 q4 d)).1.length + 1 ≤ 1000000000000 := by
            have h1 := HLE.out
            rw [TL.out] at h1
            simp only [List.length_append, List.length_cons, List.length_nil] at h1 ⊢
            omega
          have C3 := Lib.hid (wrb_any B b nv _ [124] ⟨#[124]⟩ w5 W5.out rfl (by simp only [List.length_append, List.length_cons, List.length_nil] at hl6 ⊢; omega))
          have HL6 := Lib.hid hl6
          clear e6 hl6
          go_wp2_with fail
          refine C3.out.mono ?_
          rintro e w6 ⟨rfl, h6, k6⟩
          have K6 := Lib.hid (K5.out.trans k6)
          have X6 := Lib.hid (k6.keep _ _ _ _ X5.out (by decide) (by decide))
          have C4 := Lib.hid (IH.out _ SK.out.2.1 HH.out.2.2.1.1 HH.out.2.2.1.2.1 _ _ w6 (U5.out.low hSB k6.low) h6 (E5.out.kw k6) (by have := HL6.out; omega))
          have hx6 := heap_lt X6.out
          clear h6 k6 C3 y0 y1 y2 y3
          obtain ⟨y0, y1, y2, y3⟩ := box4t X6.out
          go_wp2_with fail
          refine C4.out.mono ?_
          rintro e w7 ⟨rfl, h7, k7⟩
          have K7 := Lib.hid (K6.out.trans k7)
          have C5 := Lib.hid (wrb_any B b nv _ [93] ⟨#[93]⟩ w7 h7 rfl (by have := HL6.out; simp only [List.length_append, List.length_cons, List.length_nil] at this ⊢; omega))
          clear h7 k7 C4
          go_wp2_with fail
          refine C5.out.mono ?_
          rintro e w8 ⟨rfl, h8, k8⟩
          have P := Lib.hid (show WrP B b nv (l ++ full) w (.returned (.tuple #[])) w8 from ⟨rfl, by rw [← HE6.out]; simpa using h8, K7.out.trans k8⟩)
          clear h8 k8 C5
          go_wp2_with fail
          go_end0
          exact P.out
end Go.Proofs.YtiefbdblefliaaaDoor
