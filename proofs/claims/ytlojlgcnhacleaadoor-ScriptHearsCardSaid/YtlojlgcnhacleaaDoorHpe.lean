/- script.Hear, of a text that was told. -/
import Derived.Test.YtlojlgcnhacleaaDoorHpd
import Derived.OwnWalkIn
namespace Go.Proofs.YtlojlgcnhacleaaDoor
open Go.RowKit Go.Shelf
attribute [local go_sem] Oper.semAt_some
theorem Tryd.info_Outcome : (Tryd.prog.info? 25).map (fun i => (i.zero, i.size, i.bytes)) = some (some (.agg #[.int .i64 0, .string ⟨#[]⟩]), 2, 24) := by kernel_rfl
theorem elO : El Tryd.prog 22 25 (.agg #[.int .i64 0, .string ⟨#[]⟩]) 2 24 := by
  obtain ⟨i0, hi, hz0, hz1, hz2⟩ := info_parts Tryd.info_Outcome
  exact ⟨Tryd.underlying22, ⟨i0, hi, hz0, hz1, hz2⟩, rfl, by omega⟩
theorem numL_at : ∀ (a : List (Int × ByteArray)) (y : Int × ByteArray) (r : List (Int × ByteArray)) (ls : List (List UInt8)) (k : Nat), numL k ls = a ++ y :: r → ∃ h : a.length < ls.length, y.2 = ba ls[a.length]
  | [], y, r, [], k, h => by cases h
  | [], y, r, l :: ls, k, h => by
    rw [numL, List.nil_append] at h
    injection h with h _
    subst h
    exact ⟨by simp, rfl⟩
  | x :: a, y, r, [], k, h => by cases h
  | x :: a, y, r, l :: ls, k, h => by
    rw [numL, List.cons_append] at h
    injection h with _ h
    obtain ⟨h1, h2⟩ := numL_at a y r ls (k + 1) h
    exact ⟨by simpa using h1, by simpa using h2⟩
theorem outV_snoc (os : List (Nat × List UInt8)) (m : Nat) (h : m < os.length) : outV (os.take (m + 1)) = outV (os.take m) ++ [.int .i64 (os[m].1 : Int), .string (ba os[m].2)] := by
  rw [List.take_add_one, List.getElem?_eq_getElem h]
  unfold outV
  rw [List.flatMap_append]
  rfl
/-- Hear under way. -/
structure HrI (b2 b3 b4 : Nat) (w : World) (os : List (Nat × List UInt8)) (m : Nat) (W : World) : Prop where
  box : ∃ v, W.heap[b4]? = some (.cells #[v] 22 (0, 0)) ∧ W.ownsRow w.heap.size 25 2 v m (outV (os.take m))
  r2 : W.heap[b2]? = some (.cells #[.slice none 0 0] 22 (0, 0))
  r3 : W.heap[b3]? = some (.cells #[.int .i64 0] 27 (0, 0))
  low : Below w.heap.size w W
theorem HrI.keep {b2 b3 b4 : Nat} {w W W' : World} {os : List (Nat × List UInt8)} {m : Nat} (h : HrI b2 b3 b4 w os m W) (hk : ∀ (k : Nat) (cs : Array Value) (t : TypeId) (f : Nat × Nat), W.heap[k]? = some (.cells cs t f) → t ≠ 9 → W'.heap[k]? = some (.cells cs t f)) (hb : Below w.heap.size w W') : HrI b2 b3 b4 w os m W' := by
  obtain ⟨⟨v, h1, h2⟩, h3, h4, h5⟩ := h
  refine ⟨⟨v, hk _ _ _ _ h1 (by decide), own_keep h2 fun g hg => ?_⟩, hk _ _ _ _ h3 (by decide), hk _ _ _ _ h4 (by decide), hb⟩
  obtain ⟨cs, f, hh⟩ := Go.Lib.ownsRow_kind h2 _ hg
  exact (hk g cs _ f hh (by decide)).trans hh.symm
theorem HrI.below {b2 b3 b4 : Nat} {w W W' : World} {os : List (Nat × List UInt8)} {m : Nat} (h : HrI b2 b3 b4 w os m W) (hb : Below W.heap.size W W') : HrI b2 b3 b4 w os m W' :=
  h.keep (fun k _ _ _ hk _ => (hb.block k (heap_lt hk)).trans hk) (h.low.trans (hb.mono h.low.size))
theorem retMD {F : Fence} {n : Nat} {P : Program} {fn : Func} {R : Ending → World → Prop} {a : Act} {w : World} {v : Value} {D : Nat} (hK : w.heap[D]? = some (.deferred (some []))) (hr : (results fn a.tmps).run P (w.putObj D (.deferred none)) = .ok v (w.putObj D (.deferred none))) (hd : a.defers = [{ target := .collected D, args := #[] }]) (hR : R (.returned v) (w.putObj D (.deferred none))) : bodyPostM F n P fn R .ret a w := by
  show LeavesInM F n P fn a.tmps R a.defers .returning w
  rw [hd]
  exact ⟨by simp, .inl ⟨_, _, rfl, run_takeDeferred hK, ⟨v, hr, hR⟩⟩⟩
set_option maxRecDepth 100000 in
set_option maxHeartbeats 16000000 in
theorem hear_any (os : List (Nat × List UInt8)) (s : ByteArray) (hs : s.data.toList = tellL os) (w : World) (hK : KindsX w) (mx : Int) (hm : w.cell? ⟨1, 0, none⟩ = some (.int .i64 mx))
    (hk : ∀ o ∈ os, 1 ≤ o.1 ∧ o.1 ≤ 8) (ht : ∀ o ∈ os, hasT o.1 = false → o.2 = []) (hn : os.length ≤ 100000) (hl : s.size ≤ 1000000) :
    Calls Tryd.prog 6 #[.string s] w fun e w' => ∃ A c, e = .returned (.tuple #[.slice A os.length c, .int .i64 0]) ∧ OutR w' A os ∧ Below w.heap.size w w' := by
  refine (callsIn_wide (n := 10)).1 (callsIn_of_wp_marks Tryd.func6 rfl trivial (wpIn_wide.2 ?_))
  simp only [Tryd.ntmps6, List.size_toArray, List.length_cons, List.length_nil, Nat.reduceAdd, Nat.reduceSub, Array.replicate_succ, Array.replicate_zero, List.push_toArray, List.append_toArray, List.nil_append, List.cons_append]
  have hgl : 0 < w.heap.size := cell_lt (hK 0 (by decide))
  have hmw : 1 < w.heap.size := cell_lt hm
  have HK := Lib.hid hK
  have HM := Lib.hid hm
  have HS := Lib.hid hs
  clear hK hm hs
  obtain ⟨W6, hW6⟩ : ∃ W6, ((w.alloc (Obj.cells #[.slice none 0 0] 22)).alloc (Obj.cells #[.int .i64 0] 27)).alloc (Obj.cells #[.slice none 0 0] 22) = W6 := ⟨_, rfl⟩
  have HW6 := Lib.hid hW6
  have CL := Lib.hid (plines_any s W6)
  have h6 : W6.heap.size = w.heap.size + 3 := by rw [← hW6]; simp
  have H6 := Lib.hid h6
  have I0 : HrI w.heap.size (w.heap.size + 1) (w.heap.size + 1 + 1) w os 0 W6 := by
    rw [← hW6]
    have e1 : (w.alloc (Obj.cells #[.slice none 0 0] 22)).heap.size = w.heap.size + 1 := by simp
    have e2 : ((w.alloc (Obj.cells #[.slice none 0 0] 22)).alloc (Obj.cells #[.int .i64 0] 27)).heap.size = w.heap.size + 1 + 1 := by simp
    exact ⟨⟨_, heap_at _ _ (by rw [e2]), rfl, .inl ⟨rfl, rfl⟩⟩, (Below.heap_alloc _ _ _ (by rw [e2]; omega)).trans ((Below.heap_alloc _ _ _ (by rw [e1]; omega)).trans (heap_alloc_new _ _)), (Below.heap_alloc _ _ _ (by rw [e2]; omega)).trans (heap_at _ _ (by rw [e1])), belA (belA (belA (Below.refl _ _) _) _) _⟩
  have HI0 := Lib.hid I0
  have hl0 : s.data.toList.length = s.size := Array.length_toList
  have hlines : linesL s.data.toList = os.map lineO := by
    rw [HS.out]
    exact lines_tell fun o ho => by have := (hk o ho).2; omega
  have hheard : ∀ i (h : i < os.length), heardL (lineO os[i]) = some os[i] := fun i h => heard_line (hk _ (List.getElem_mem h)).1 (by have := (hk _ (List.getElem_mem h)).2; omega) (ht _ (List.getElem_mem h))
  have hlsz : ∀ i (h : i < os.length), (lineO os[i]).length ≤ s.size := fun i h => by
    rw [← hl0, HS.out]
    have e : tellL os = tellL (os.take i) ++ tellL (os.drop i) := by
      show joinL (os.map lineO) = joinL ((os.take i).map lineO) ++ joinL ((os.drop i).map lineO)
      rw [← joinL_app, ← List.map_append, List.take_append_drop]
    rw [e, List.length_append, List.drop_eq_getElem_cons h]
    show _ ≤ _ + (lineO os[i] ++ [10] ++ joinL ((os.drop (i + 1)).map lineO)).length
    rw [List.length_append, List.length_append]
    omega
  have HL := Lib.hid hlines
  have HH := Lib.hid hheard
  have HZ := Lib.hid hlsz
  clear hW6 h6 I0 hlines hheard hlsz
  -- the first test
  have hsuf : (s.toList == []) = true ∨ ((s.toList == []) = false ∧ Lib.hasSuffix s.data.toList [10] = true) := by
    rw [ByteArray.toList_eq, HS.out]
    rcases List.eq_nil_or_concat os with h | ⟨os', o, h⟩
    · subst h
      exact .inl rfl
    · right
      have : tellL os = (tellL os' ++ lineO o) ++ [10] := by
        rw [h, List.concat_eq_append]
        show joinL ((os' ++ [o]).map lineO) = _
        rw [List.map_append, joinL_app]
        simp [joinL, tellL]
      rw [this]
      refine ⟨by simp, ?_⟩
      unfold Lib.hasSuffix
      exact List.isSuffixOf_iff_suffix.2 ⟨_, rfl⟩
  have CS := Lib.hid (Tryd.strings_HasSuffix s ⟨#[10]⟩ W6 (by omega))
  rw [show (⟨#[10]⟩ : ByteArray).data.toList = [10] from rfl] at CS
  rcases hsuf with he | ⟨he, he2⟩
  case' inl => go_wp2_with fail
  case' inr =>
    rw [he2] at CS
    go_wp2_with fail
    rw [HW6.out]
    refine CS.out.mono ?_
    rintro e w' ⟨rfl, hw'⟩
    rw [hw']
    clear hw'
    go_wp2_with fail
  case' inl => rw [HW6.out]
  all_goals (refine CL.out.mono ?_; rintro e w7 ⟨rfl, rfl⟩; go_wp2_with fail)
  all_goals
    have hww : w.heap.size ≤ W6.heap.size := by have := H6.out; omega
    have XS := heap_alloc_new W6 (Obj.cells #[.string s] 9)
    have h7 : (W6.alloc (Obj.cells #[.string s] 9)).heap.size = W6.heap.size + 1 := by simp
    have I7 := HI0.out.below (belA (Below.refl W6.heap.size W6) (Obj.cells #[.string s] 9))
    generalize (W6.alloc (Obj.cells #[.string s] 9)) = W7 at *
    have hmr : W7.cell? ⟨1, 0, none⟩ = some (.int .i64 mx) := (I7.low.cell (p := ⟨1, 0, none⟩) hmw).trans HM.out
    have LS := lines_stops 9 W6.heap.size w.heap.size s mx W7 (by omega) (by omega) hmw hww XS hmr
    refine (wpIn_wide (n := 10)).1 (wpIn_rangeFunc_box (n := 10) (a₁ := _) (b0 := W6.heap.size) (n0 := w.heap.size) rfl (by omega) (gf := 23) (lb := #[.pointer (some ⟨W6.heap.size, 0, none⟩)]) rfl trivial (enters_of Tryd.func23 (by kernel_rfl) rfl) LS (by omega) (by omega) (Below.refl _ _) (fun _ => rfl)
      (fun pre W => HrI w.heap.size (w.heap.size + 1) (w.heap.size + 1 + 1) w os pre.length W ∧ ∃ cs, W.heap[W6.heap.size]? = some (.cells cs 9 (0, 0)))
      (fun _ _ _ => False) ?_ (fun _ _ _ _ _ hs _ _ => hs) ?_ (fun _ _ _ _ hs => hs) ?_
      (by
        intro l x W K hK
        dsimp only [lnV]
        gi_wp2
        exact hK) ?_ ?_ ?_)
    · intro pre A B row hs hg hr
      obtain ⟨h1, cs, h2⟩ := hs
      exact ⟨h1.keep (fun k cs t f hk _ => cells_grown hk hg fun r e => (hr r e).2) (h1.low.grown hg h1.low.size (fun k e => by have := (hr k e).1; omega)), cs, cells_grown h2 hg fun r e => (hr r e).2⟩
    · intro pre W v hs
      obtain ⟨h1, cs, h2⟩ := hs
      exact ⟨h1.keep (fun k cs' t f hk ht => (Below.heap_setCell _ _ _ k fun e => by
        rw [show k = W6.heap.size from e, h2] at hk
        injection hk with hk
        injection hk with _ hk
        exact ht hk.symm).trans hk) (h1.low.setCell (p := ⟨W6.heap.size, 0, none⟩) hww v), _, blk_set h2 0 v⟩
    · exact ⟨I7, _, XS⟩
    · intro l pre x W hi hC
      obtain ⟨r, hr⟩ := hC
      rw [HL.out] at hr
      obtain ⟨hlt, hxe⟩ := numL_at _ _ _ _ _ hr
      simp only [List.length_map] at hlt
      simp only [List.length_map, List.getElem_map] at hxe
      obtain ⟨hI, cs, hsb⟩ := hi
      obtain ⟨⟨xn, xs⟩, hxs, hx1, hx2⟩ := x
      simp only at hxe
      subst hxe
      have hbd : (ba (lineO os[pre.length])).data.toList = lineO os[pre.length] := by simp [ba]
      have CH := Lib.hid (heard_any (ba (lineO os[pre.length])) os[pre.length] (by rw [hbd]; exact HH.out _ hlt) (by have h9 := HZ.out _ hlt; rw [← hbd, Array.length_toList] at h9; exact Nat.le_trans h9 (by omega)) W (HK.out.below hI.low hgl))
      have HSn := Lib.hid (outV_snoc os pre.length hlt)
      generalize os[pre.length] = o at *
      obtain ⟨K, tx⟩ := o
      have HI := Lib.hid hI
      have HSB := Lib.hid hsb
      clear hr hI hsb hbd
      gi_wp2
      refine ⟨trivial, ?_⟩
      refine (CallsIn.inRound l (callsIn_wide.2 CH.out)).mono ?_
      rintro e w1 ⟨rfl, hb1⟩
      have i1 := HI.out.below hb1
      have sb1 := (hb1.block _ (heap_lt HSB.out)).trans HSB.out
      obtain ⟨v, hv, hown⟩ := i1.box
      have hs1 : w.heap.size + 3 ≤ w1.heap.size := by have := heap_lt sb1; have := H6.out; omega
      obtain ⟨A, cc, rfl, -, -, -, -⟩ := own_open hown
      have z4 : ∀ o, (w1.alloc o).cell? ⟨w.heap.size + 1 + 1, 0, none⟩ = some (.slice A pre.length cc) := fun o => cell_of_row _ _ 0 _ _ _ ((Below.heap_alloc _ _ _ (heap_lt hv)).trans hv)
      obtain ⟨i0, hi, hz0, hz1, hz2⟩ := elO.hi
      have hnw := two_news (w := ((w1.alloc (Obj.cells #[.int .i64 (K : Int), .string (ba tx)] 25)).alloc (Obj.cells #[.int .i64 (K : Int), .string (ba tx)] 25))) (g := w1.heap.size + 1) (a := .int .i64 (K : Int)) (b := .string (ba tx)) (t := 25) (heap_at _ _ (by simp))
      have S1 := Lib.hid sb1
      have I1 := Lib.hid i1
      have V1 := Lib.hid hv
      have O1 := Lib.hid hown
      have NW := Lib.hid hnw
      have HB1 := Lib.hid hb1
      clear sb1 i1 hv hown hnw hb1
      gi_wp2_with (gi_at_builtin; go_must (refine wpListIn_append_own _ rfl _ _ 22 rfl w.heap.size 25 i0 (.agg #[.int .i64 0, .string ⟨#[]⟩]) 2 24 Tryd.underlying22 hi hz0 hz1 hz2 rfl (by decide) _ _ _ rfl ((O1.out.alloc _).alloc _) ⟨w1.heap.size + 1, 0, none⟩ 1 1 [.int .i64 (K : Int), .string (ba tx)] rfl rfl NW.out (by intro u hu; simp at hu; rcases hu with rfl | rfl <;> rfl) (by unfold maxLen; omega) (by omega) (by simp; omega) ?_; intro v5 w5 hown5 hgr5 _; obtain ⟨A5, c5, rfl, -⟩ := own_open hown5; have hb5 : w5.heap[w.heap.size + 1 + 1]? = some (.cells #[.slice A pre.length cc] 22 (0, 0)) := (hgr5.block _ (by simp; omega) (rowNe O1.out V1.out (by decide))).trans (((Below.heap_alloc _ _ _ (by simp; omega)).trans (Below.heap_alloc _ _ _ (by omega))).trans V1.out); have hc5 : w5.cell? ⟨w.heap.size + 1 + 1, 0, none⟩ = some (.slice A pre.length cc) := cell_of_row _ _ 0 _ _ _ hb5; have hf5 : w5.frozen? ⟨w.heap.size + 1 + 1, 0, none⟩ = false := (by simp [World.frozen?, hb5]); have HB5 := Lib.hid hb5; have OW5 := Lib.hid hown5; have GR5 := Lib.hid hgr5; clear hb5 hown5 hgr5))
      have hold : ∀ (k : Nat) (o : Obj), w1.heap[k]? = some o → some k ≠ (Value.slice A pre.length cc).ownBlock → k ≠ w.heap.size + 1 + 1 → (w5.setCell ⟨w.heap.size + 1 + 1, 0, none⟩ (.slice A5 (pre.length + 1) c5)).heap[k]? = some o := fun k o hk h1 h2 =>
        (Below.heap_setCell _ _ _ _ h2).trans ((GR5.out.block _ (by have := heap_lt hk; simp; omega) h1).trans ((Below.heap_alloc _ _ _ (by have := heap_lt hk; simp; omega)).trans ((Below.heap_alloc _ _ _ (heap_lt hk)).trans hk)))
      have hWs : w.heap.size ≤ W.heap.size := HI.out.low.size
      have hbl : Below w.heap.size W (w5.setCell ⟨w.heap.size + 1 + 1, 0, none⟩ (.slice A5 (pre.length + 1) c5)) :=
        ((((HB1.out.mono hWs).alloc (by omega) _).alloc (by simp; omega) _).grown GR5.out (by simp; omega) (ownBlock_ge O1.out)).setCell (p := ⟨w.heap.size + 1 + 1, 0, none⟩) (by show w.heap.size ≤ w.heap.size + 1 + 1; omega) _
      have hty : ∀ (k : Nat) (cs : Array Value) (t : TypeId) (f : Nat × Nat), w1.heap[k]? = some (.cells cs t f) → k = w.heap.size + 1 + 1 → t = 22 := fun k cs t f hk e => by
        rw [e, V1.out] at hk
        injection hk with hk
        injection hk with _ hk
        exact hk.symm
      have hsb' := hold _ _ S1.out (rowNe O1.out S1.out (by decide)) (fun e => by have := hty _ _ _ _ S1.out e; exact absurd this (by decide))
      refine ⟨⟨hbl.size, fun k o _ hk ho => ?_⟩, ⟨hsb'.trans HSB.out.symm, hbl⟩, ⟨⟨_, by simpa using blk_set HB5.out 0 (.slice A5 (pre.length + 1) c5), ?_⟩, ?_, ?_, HI.out.low.trans hbl⟩, cs, hsb'⟩
      · have hk1 := (HB1.out.block k (heap_lt hk)).trans hk
        refine hold k o hk1 (fun e => ?_) (fun e => ?_)
        · obtain ⟨cs', f', hh⟩ := Go.Lib.ownsRow_kind O1.out _ e.symm
          rw [hk1] at hh
          injection hh with hh
          rw [hh] at ho
          cases ho
        · rw [e, V1.out] at hk1
          injection hk1 with hk1
          rw [← hk1] at ho
          cases ho
      · rw [List.length_append, List.length_singleton, HSn.out]
        refine own_keep OW5.out fun g hg => Below.heap_setCell _ _ _ _ fun e => ?_
        obtain ⟨cs', f', hh⟩ := Go.Lib.ownsRow_kind OW5.out _ hg
        rw [show g = w.heap.size + 1 + 1 from e, HB5.out] at hh
        injection hh with hh
        injection hh with _ hh
        exact absurd hh (by decide)
      · exact hold _ _ I1.out.r2 (rowNe O1.out I1.out.r2 (by decide)) (by omega)
      · exact hold _ _ I1.out.r3 (rowNe O1.out I1.out.r3 (by decide)) (by omega)
    · intro D xs W hD hS hi hK
      obtain ⟨hI, cs, hsb⟩ := hi
      have hxl : xs.length = os.length := by
        have := congrArg List.length hS
        rw [List.length_map, numL_len, HL.out, List.length_map] at this
        exact this
      rw [hxl] at hI
      obtain ⟨⟨v, hv, hown⟩, hr2, hr3, hlow⟩ := hI
      rw [List.take_length] at hown
      obtain ⟨A, cc, rfl, -⟩ := own_open hown
      have hz := cell_of_row _ _ 0 _ _ _ hv
      have q2 := cell_of_row _ _ 0 _ _ _ hr2
      have f2 : W.frozen? ⟨w.heap.size, 0, none⟩ = false := by simp [World.frozen?, hr2]
      have hr3' : (W.setCell ⟨w.heap.size, 0, none⟩ (.slice A os.length cc)).heap[w.heap.size + 1]? = some (.cells #[.int .i64 0] 27 (0, 0)) := (Below.heap_setCell _ _ _ _ (by show w.heap.size + 1 ≠ w.heap.size; omega)).trans hr3
      have q3 := cell_of_row _ _ 0 _ _ _ hr3'
      have f3 : (W.setCell ⟨w.heap.size, 0, none⟩ (.slice A os.length cc)).frozen? ⟨w.heap.size + 1, 0, none⟩ = false := by simp [World.frozen?, hr3']
      have hW7 : W7.heap.size = W6.heap.size + 1 := h7
      have hD2 := H6.out
      have K8 := Lib.hid (show ((W.setCell ⟨w.heap.size, 0, none⟩ (.slice A os.length cc)).setCell ⟨w.heap.size + 1, 0, none⟩ (.int .i64 0)).heap[D]? = some (.deferred (some [])) from (Below.heap_setCell _ _ _ _ (by show D ≠ w.heap.size + 1; omega)).trans ((Below.heap_setCell _ _ _ _ (by show D ≠ w.heap.size; omega)).trans hK))
      have ne : ∀ k, k ≠ D → (((W.setCell ⟨w.heap.size, 0, none⟩ (.slice A os.length cc)).setCell ⟨w.heap.size + 1, 0, none⟩ (.int .i64 0)).putObj D (.deferred none)).heap[k]? = ((W.setCell ⟨w.heap.size, 0, none⟩ (.slice A os.length cc)).setCell ⟨w.heap.size + 1, 0, none⟩ (.int .i64 0)).heap[k]? := fun k hk => World.putObj_heap_other hk
      have z2 := cell_of_row _ w.heap.size 0 _ _ _ ((ne w.heap.size (by omega)).trans ((Below.heap_setCell _ _ _ _ (by show w.heap.size ≠ w.heap.size + 1; omega)).trans (blk_set hr2 0 (.slice A os.length cc))))
      have z3 := cell_of_row _ (w.heap.size + 1) 0 _ _ _ ((ne (w.heap.size + 1) (by omega)).trans (blk_set hr3' 0 (.int .i64 0)))
      have OW := Lib.hid (own_keep hown (w' := (((W.setCell ⟨w.heap.size, 0, none⟩ (.slice A os.length cc)).setCell ⟨w.heap.size + 1, 0, none⟩ (.int .i64 0)).putObj D (.deferred none))) fun g hg => by
        obtain ⟨cs', f', hh⟩ := Go.Lib.ownsRow_kind hown _ hg
        have n1 : g ≠ D := fun e => by rw [e, hK] at hh; injection hh with hh; cases hh
        have n2 : g ≠ w.heap.size := fun e => by rw [e, hr2] at hh; injection hh with hh; injection hh with _ hh; exact absurd hh (by decide)
        have n3 : g ≠ w.heap.size + 1 := fun e => by rw [e, hr3] at hh; injection hh with hh; injection hh with _ hh; exact absurd hh (by decide)
        exact (ne g n1).trans ((Below.heap_setCell _ _ _ _ n3).trans (Below.heap_setCell _ _ _ _ n2)))
      have L8 := Lib.hid ((hlow.setCell (p := ⟨w.heap.size, 0, none⟩) (Nat.le_refl _) (.slice A os.length cc)).setCell (p := ⟨w.heap.size + 1, 0, none⟩) (by show w.heap.size ≤ w.heap.size + 1; omega) (.int .i64 0))
      have hDw : w.heap.size ≤ D := by omega
      clear hr2 hr3 hr3' ne hK hv hown hlow hS
      go_wp2_with fail
      refine retMD (v := .tuple #[.slice A os.length cc, .int .i64 0]) K8.out (by simp [results, go_sem, z2, z3]) rfl ?_
      exact ⟨A, cc, rfl, OutR.of_own OW.out rfl, L8.out.trans (belowK_b (w := w) (Nat.le_refl _) _ D _ _ hDw K8.out rfl rfl)⟩
    · intro D c pre W hD hS hi hK
      exact hi.elim
end Go.Proofs.YtlojlgcnhacleaaDoor
