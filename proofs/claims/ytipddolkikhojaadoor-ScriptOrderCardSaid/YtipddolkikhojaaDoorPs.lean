/- script.Parse = scriptN. -/
import Derived.Test.YtipddolkikhojaaDoorPs0
namespace Go.Proofs.YtipddolkikhojaaDoor
open Go.RowKit Go.Shelf
attribute [local go_sem] Oper.semAt_some

def zeroS : Array Value := #[.string ⟨#[]⟩, .string ⟨#[]⟩, .int .i64 0, .int .i64 0, .int .i64 0, .int .i64 0]
/-- What both Parses hand back. -/
def ParseSP (tx : List UInt8) (w : World) (e : Ending) (w' : World) : Prop :=
  (∃ (pg q : ByteArray) (a b c d n er : Int), e = .returned (.tuple #[.agg #[.string pg, .string q, .int .i64 a, .int .i64 b, .int .i64 c, .int .i64 d], .int .i64 n, .int .i64 er]) ∧
    ((scriptN tx = .error (n.toNat, er) ∧ 0 ≤ n ∧ er ≠ 0 ∧ pg = ⟨#[]⟩ ∧ q = ⟨#[]⟩ ∧ a = 0 ∧ b = 0 ∧ c = 0 ∧ d = 0) ∨
      ∃ st, scriptN tx = .ok st ∧ er = 0 ∧ n = 0 ∧ pg = ba st.prog ∧ q = ba st.query ∧ a = st.lim 0 ∧ b = st.lim 1 ∧ c = st.lim 2 ∧ d = st.lim 3)) ∧ Below w.heap.size w w'
theorem bat_lt {B b : Nat} {bs : List Value} {w : World} (h : Lib.IsBuilder TB 5 B b bs w) : b < w.heap.size := by
  rcases h with h | h <;> (obtain ⟨_, v, hb, _⟩ := h; exact heap_lt hb)
/-- The result's boxes, written. -/
def putW (W : World) (b0 b1 b2 : Nat) (v0 v1 : ByteArray) (v2 v3 v4 v5 n er : Int) : World := (((((((W.setCell ⟨b0, 0, none⟩ (.string v0)).setCell ⟨b0, 1, none⟩ (.string v1)).setCell ⟨b0, 2, none⟩ (.int .i64 v2)).setCell ⟨b0, 3, none⟩ (.int .i64 v3)).setCell ⟨b0, 4, none⟩ (.int .i64 v4)).setCell ⟨b0, 5, none⟩ (.int .i64 v5)).setCell ⟨b1, 0, none⟩ (.int .i64 n)).setCell ⟨b2, 0, none⟩ (.int .i64 er)
abbrev errW (W : World) (b0 b1 b2 : Nat) (n er : Int) : World := putW W b0 b1 b2 ⟨#[]⟩ ⟨#[]⟩ 0 0 0 0 n er
theorem put_boxes {W : World} {b0 b1 b2 : Nat} (h0 : W.heap[b0]? = some (.cells #[.string ⟨#[]⟩, .string ⟨#[]⟩, .int .i64 0, .int .i64 0, .int .i64 0, .int .i64 0] 38 (0, 0))) (h1 : W.heap[b1]? = some (.cells #[.int .i64 0] 3 (0, 0))) (h2 : W.heap[b2]? = some (.cells #[.int .i64 0] 27 (0, 0))) (h01 : b0 ≠ b1) (h02 : b0 ≠ b2) (h12 : b1 ≠ b2) (v0 v1 : ByteArray) (v2 v3 v4 v5 n er : Int) :
    (putW W b0 b1 b2 v0 v1 v2 v3 v4 v5 n er).heap[b0]? = some (.cells #[.string v0, .string v1, .int .i64 v2, .int .i64 v3, .int .i64 v4, .int .i64 v5] 38 (0, 0)) ∧ (putW W b0 b1 b2 v0 v1 v2 v3 v4 v5 n er).heap[b1]? = some (.cells #[.int .i64 n] 3 (0, 0)) ∧ (putW W b0 b1 b2 v0 v1 v2 v3 v4 v5 n er).heap[b2]? = some (.cells #[.int .i64 er] 27 (0, 0)) ∧
      (∀ k, k ≠ b0 → k ≠ b1 → k ≠ b2 → (putW W b0 b1 b2 v0 v1 v2 v3 v4 v5 n er).heap[k]? = W.heap[k]?) ∧ (putW W b0 b1 b2 v0 v1 v2 v3 v4 v5 n er).heap.size = W.heap.size ∧ ∀ B, B ≤ b0 → B ≤ b1 → B ≤ b2 → Below B W (putW W b0 b1 b2 v0 v1 v2 v3 v4 v5 n er) := by
  have ne : ∀ (W : World) (b i : Nat) (v : Value) (k : Nat), k ≠ b → (W.setCell ⟨b, i, none⟩ v).heap[k]? = W.heap[k]? := fun W b i v k hk => Below.heap_setCell _ _ _ k hk
  unfold putW
  refine ⟨?_, ?_, ?_, ?_, by simp, ?_⟩
  · rw [ne _ _ _ _ _ h02, ne _ _ _ _ _ h01]
    simpa using blk_set (blk_set (blk_set (blk_set (blk_set (blk_set h0 0 (.string v0)) 1 (.string v1)) 2 (.int .i64 v2)) 3 (.int .i64 v3)) 4 (.int .i64 v4)) 5 (.int .i64 v5)
  · rw [ne _ _ _ _ _ h12]
    have := blk_set (w := (((((W.setCell ⟨b0, 0, none⟩ (.string v0)).setCell ⟨b0, 1, none⟩ (.string v1)).setCell ⟨b0, 2, none⟩ (.int .i64 v2)).setCell ⟨b0, 3, none⟩ (.int .i64 v3)).setCell ⟨b0, 4, none⟩ (.int .i64 v4)).setCell ⟨b0, 5, none⟩ (.int .i64 v5)) (g := b1) (by rw [ne _ _ _ _ _ h01.symm, ne _ _ _ _ _ h01.symm, ne _ _ _ _ _ h01.symm, ne _ _ _ _ _ h01.symm, ne _ _ _ _ _ h01.symm, ne _ _ _ _ _ h01.symm]; exact h1) 0 (.int .i64 n)
    simpa using this
  · have := blk_set (w := ((((((W.setCell ⟨b0, 0, none⟩ (.string v0)).setCell ⟨b0, 1, none⟩ (.string v1)).setCell ⟨b0, 2, none⟩ (.int .i64 v2)).setCell ⟨b0, 3, none⟩ (.int .i64 v3)).setCell ⟨b0, 4, none⟩ (.int .i64 v4)).setCell ⟨b0, 5, none⟩ (.int .i64 v5)).setCell ⟨b1, 0, none⟩ (.int .i64 n)) (g := b2) (by rw [ne _ _ _ _ _ h12.symm, ne _ _ _ _ _ h02.symm, ne _ _ _ _ _ h02.symm, ne _ _ _ _ _ h02.symm, ne _ _ _ _ _ h02.symm, ne _ _ _ _ _ h02.symm, ne _ _ _ _ _ h02.symm]; exact h2) 0 (.int .i64 er)
    simpa using this
  · intro k k0 k1 k2
    rw [ne _ _ _ _ _ k2, ne _ _ _ _ _ k1, ne _ _ _ _ _ k0, ne _ _ _ _ _ k0, ne _ _ _ _ _ k0, ne _ _ _ _ _ k0, ne _ _ _ _ _ k0, ne _ _ _ _ _ k0]
  · intro B B0 B1 B2
    exact (((((((((Below.refl B W).setCell (p := ⟨b0, 0, none⟩) B0 _).setCell (p := ⟨b0, 1, none⟩) B0 _).setCell (p := ⟨b0, 2, none⟩) B0 _).setCell (p := ⟨b0, 3, none⟩) B0 _).setCell (p := ⟨b0, 4, none⟩) B0 _).setCell (p := ⟨b0, 5, none⟩) B0 _).setCell (p := ⟨b1, 0, none⟩) B1 _).setCell (p := ⟨b2, 0, none⟩) B2 _)
theorem alloc_at (w : World) (o : Obj) {k : Nat} (h : k = w.heap.size) : (w.alloc o).heap[k]? = some o := by subst h; exact heap_alloc_new w o
theorem alloc_old {w : World} (o : Obj) {k : Nat} {x : Obj} (h : w.heap[k]? = some x) : (w.alloc o).heap[k]? = some x := (Below.heap_alloc _ _ _ (heap_lt h)).trans h
theorem first8 (w W6 : World) (hW6 : ((((((w.alloc (Obj.cells #[.string ⟨#[]⟩, .string ⟨#[]⟩, .int .i64 0, .int .i64 0, .int .i64 0, .int .i64 0] 38)).alloc (Obj.cells #[.int .i64 0] 3)).alloc (Obj.cells #[.int .i64 0] 27)).alloc (Obj.cells #[.string ⟨#[]⟩, .string ⟨#[]⟩, .int .i64 1000, .int .i64 500, .int .i64 100, .int .i64 10] 38)).alloc (Obj.cells #[.pointer none, .slice none 0 0] TB)).alloc (Obj.map #[] 0)).alloc (Obj.cells #[.map (some (w.heap.size + 1 + 1 + 1 + 1 + 1))] TM) = W6) (s : ByteArray) :
    W6.heap.size = w.heap.size + 7 ∧ Ord8 w.heap.size (w.heap.size + 1) (w.heap.size + 1 + 1) (w.heap.size + 1 + 1 + 1) (w.heap.size + 1 + 1 + 1 + 1) (w.heap.size + 1 + 1 + 1 + 1 + 1) (w.heap.size + 1 + 1 + 1 + 1 + 1 + 1) W6.heap.size w ∧
      PI w.heap.size (w.heap.size + 1) (w.heap.size + 1 + 1) (w.heap.size + 1 + 1 + 1) (w.heap.size + 1 + 1 + 1 + 1) (w.heap.size + 1 + 1 + 1 + 1 + 1) (w.heap.size + 1 + 1 + 1 + 1 + 1 + 1) W6.heap.size w SS.start 0 (W6.alloc (Obj.cells #[.string s] 9)) := by
  have h6 : W6.heap.size = w.heap.size + 7 := by rw [← hW6]; simp
  refine ⟨h6, ⟨rfl, rfl, rfl, rfl, rfl, rfl, rfl, h6⟩, ?_⟩
  have q5 := SM.made ((((w.alloc (Obj.cells #[.string ⟨#[]⟩, .string ⟨#[]⟩, .int .i64 0, .int .i64 0, .int .i64 0, .int .i64 0] 38)).alloc (Obj.cells #[.int .i64 0] 3)).alloc (Obj.cells #[.int .i64 0] 27)).alloc (Obj.cells #[.string ⟨#[]⟩, .string ⟨#[]⟩, .int .i64 1000, .int .i64 500, .int .i64 100, .int .i64 10] 38) |>.alloc (Obj.cells #[.pointer none, .slice none 0 0] TB))
  have q4 := bld_new (((w.alloc (Obj.cells #[.string ⟨#[]⟩, .string ⟨#[]⟩, .int .i64 0, .int .i64 0, .int .i64 0, .int .i64 0] 38)).alloc (Obj.cells #[.int .i64 0] 3)).alloc (Obj.cells #[.int .i64 0] 27) |>.alloc (Obj.cells #[.string ⟨#[]⟩, .string ⟨#[]⟩, .int .i64 1000, .int .i64 500, .int .i64 100, .int .i64 10] 38))
  simp only [World.size_alloc] at q4 q5
  refine ⟨?_, ⟨_, SM.keep (q5.keep (w' := W6) ?_) ?_, rfl, fun k _ => rfl⟩, ?_, ⟨_, alloc_at W6 _ rfl⟩, ?_, ?_, ?_, ?_, ?_⟩
  · show (W6.alloc _).heap[_]? = _
    rw [← hW6]
    exact alloc_old _ (alloc_old _ (alloc_old _ (alloc_old _ (alloc_at _ _ (by simp)))))
  · rw [← hW6]
    exact Below.heap_alloc _ _ _ (by simp)
  · exact Below.heap_alloc _ _ _ (by omega)
  · refine isb_keep q4 fun k cs t f hk _ => ?_
    rw [← hW6]
    exact alloc_old _ (alloc_old _ (alloc_old _ hk))
  · rw [← hW6]
    exact alloc_old _ (alloc_old _ (alloc_old _ (alloc_old _ (alloc_old _ (alloc_old _ (alloc_old _ (alloc_at _ _ rfl)))))))
  · rw [← hW6]
    exact alloc_old _ (alloc_old _ (alloc_old _ (alloc_old _ (alloc_old _ (alloc_old _ (alloc_at _ _ (by simp)))))))
  · rw [← hW6]
    exact alloc_old _ (alloc_old _ (alloc_old _ (alloc_old _ (alloc_old _ (alloc_at _ _ (by simp))))))
  · rw [← hW6]
    exact alloc_old _ (alloc_at _ _ (by simp))
  · rw [← hW6]
    exact belA (belA (belA (belA (belA (belA (belA (belA (Below.refl _ _) _) _) _) _) _) _) _) _
set_option maxRecDepth 100000 in
set_option maxHeartbeats 16000000 in
theorem sparse_any (s : ByteArray) (w : World) (hs : s.size ≤ 50000) (hW : WordsX w) (mx : Int) (hm : w.cell? ⟨2, 0, none⟩ = some (.int .i64 mx)) (hT : TabX w) (hE : ErrX w) :
    Calls Tryd.prog 15 #[.string s] w fun e w' => ParseSP s.data.toList w e w' := by
  have hmm := @run_makeMap Tryd.prog
  refine (callsIn_wide (n := 10)).1 (callsIn_of_wp_marks Tryd.func15 rfl trivial (wpIn_wide.2 ?_))
  simp only [Tryd.ntmps15, List.size_toArray, List.length_cons, List.length_nil, Nat.reduceAdd, Nat.reduceSub, Array.replicate_succ, Array.replicate_zero, List.push_toArray, List.append_toArray, List.nil_append, List.cons_append]
  have hws := hW.lt
  have hmw : 2 < w.heap.size := Lib.lt_of_cell hm
  have HW := Lib.hid hW
  have HT := Lib.hid hT
  have HE := Lib.hid hE
  have HM := Lib.hid hm
  clear hW hT hE hm
  obtain ⟨W6, hW6⟩ : ∃ W6, ((((((w.alloc (Obj.cells #[.string ⟨#[]⟩, .string ⟨#[]⟩, .int .i64 0, .int .i64 0, .int .i64 0, .int .i64 0] 38)).alloc (Obj.cells #[.int .i64 0] 3)).alloc (Obj.cells #[.int .i64 0] 27)).alloc (Obj.cells #[.string ⟨#[]⟩, .string ⟨#[]⟩, .int .i64 1000, .int .i64 500, .int .i64 100, .int .i64 10] 38)).alloc (Obj.cells #[.pointer none, .slice none 0 0] TB)).alloc (Obj.map #[] 0)).alloc (Obj.cells #[.map (some (w.heap.size + 1 + 1 + 1 + 1 + 1))] TM) = W6 := ⟨_, rfl⟩
  have HW6 := Lib.hid hW6
  have FS := Lib.hid (first8 w W6 hW6 s)
  have CL := Lib.hid (plines_any s W6)
  clear hW6
  go_wp2_with fail
  rw [HW6.out]
  refine CL.out.mono ?_
  rintro e w7 ⟨rfl, rfl⟩
  go_wp2_with fail
  obtain ⟨h6, ORD, PI0⟩ := FS.out
  have XS := heap_alloc_new W6 (Obj.cells #[.string s] 9)
  have h7 : (W6.alloc (Obj.cells #[.string s] 9)).heap.size = W6.heap.size + 1 := by simp
  generalize (W6.alloc (Obj.cells #[.string s] 9)) = W7 at *
  have hww : w.heap.size ≤ W6.heap.size := by omega
  have hmr : W7.cell? ⟨2, 0, none⟩ = some (.int .i64 mx) := (PI0.low.cell (p := ⟨2, 0, none⟩) hmw).trans HM.out
  have LS := lines_stops 9 W6.heap.size w.heap.size s mx _ (by omega) (by omega) hmw hww XS hmr
  generalize w.heap.size + 1 + 1 + 1 + 1 + 1 + 1 = b6 at *
  generalize w.heap.size + 1 + 1 + 1 + 1 + 1 = b5 at *
  generalize w.heap.size + 1 + 1 + 1 + 1 = b4 at *
  generalize w.heap.size + 1 + 1 + 1 = b3 at *
  generalize w.heap.size + 1 + 1 = b2 at *
  generalize w.heap.size + 1 = b1 at *
  have HO := Lib.hid ORD
  have HP0 := Lib.hid PI0
  have hd : w.heap.size < b1 ∧ b1 < b2 ∧ b2 < b3 ∧ b3 < b4 ∧ b4 < b5 ∧ b5 < b6 ∧ b6 < W6.heap.size ∧ W6.heap.size < W7.heap.size := by
    obtain ⟨e0, e1, e2, e3, e4, e5, e6, e7⟩ := ORD
    exact ⟨by omega, by omega, by omega, by omega, by omega, by omega, by omega, by omega⟩
  obtain ⟨d0, d1, d2, d3, d4, d5, d6, d7⟩ := hd
  have hs7 : w.heap.size < W7.heap.size := by omega
  clear ORD PI0 FS HW6 XS h6 h7
  refine (wpIn_wide (n := 10)).1 (wpIn_rangeFunc_box (n := 10) (a₁ := _) (b0 := W6.heap.size) (n0 := w.heap.size) rfl (by omega) (gf := 48) (lb := #[.pointer (some ⟨W6.heap.size, 0, none⟩)]) rfl trivial (enters_of Tryd.func48 (by kernel_rfl) rfl) LS (by omega) (by omega) (Below.refl _ _) (fun _ => rfl)
    (fun pre W => ∃ st N, sayAll (lnsL pre) 1 SS.start = .ok st ∧ N ≤ pre.length ∧ st.prog.length ≤ 100000010 * pre.length ∧ PI w.heap.size b1 b2 b3 b4 b5 b6 W6.heap.size w st N W)
    (fun c pre' W => c = .ret ∧ ∃ (pre : List Ln) (x : Ln) (st : SS) (er : Int), pre' = pre ++ [x] ∧ sayAll (lnsL pre) 1 SS.start = .ok st ∧ sayL st x.1.2.data.toList = .error er ∧ er ≠ 0 ∧ W.heap[w.heap.size]? = some (.cells #[.string ⟨#[]⟩, .string ⟨#[]⟩, .int .i64 0, .int .i64 0, .int .i64 0, .int .i64 0] 38 (0, 0)) ∧ W.heap[b1]? = some (.cells #[.int .i64 x.1.1] 3 (0, 0)) ∧ W.heap[b2]? = some (.cells #[.int .i64 er] 27 (0, 0)) ∧ Below w.heap.size w W)
    ?_ ?_ ?_ ?_ ?_
    (by
      intro l x W K hK
      dsimp only [lnV]
      gi_wp2
      exact hK) ?_ ?_ ?_)
  · intro pre A B row hs hg hr
    obtain ⟨st, N, h1, h2, h3, h4⟩ := hs
    exact ⟨st, N, h1, h2, h3, h4.grown HO.out (by omega) hg hr⟩
  · intro c pre' A B row hs hg hr
    obtain ⟨hc, pre, x, st, er, h1, h2, h3, h4, h5, h6', h7', h8⟩ := hs
    have hn : ∀ r, row = some r → ∃ o : Obj, A.heap[r]? = some o ∧ o.isCells = false := fun r e => (hr r e).2
    exact ⟨hc, pre, x, st, er, h1, h2, h3, h4, cells_grown h5 hg hn, cells_grown h6' hg hn, cells_grown h7' hg hn, h8.grown hg (by have := h8.size; omega) fun k e => by have := (hr k e).1; omega⟩
  · intro pre W v hs
    obtain ⟨st, N, h1, h2, h3, h4⟩ := hs
    exact ⟨st, N, h1, h2, h3, h4.put HO.out v⟩
  · intro c pre' W v hs
    obtain ⟨hc, pre, x, st, er, h1, h2, h3, h4, h5, h6', h7', h8⟩ := hs
    have ne : ∀ k, k ≠ W6.heap.size → (W.setCell ⟨W6.heap.size, 0, none⟩ v).heap[k]? = W.heap[k]? := fun k hk => Below.heap_setCell _ _ _ k hk
    exact ⟨hc, pre, x, st, er, h1, h2, h3, h4, (ne _ (by omega)).trans h5, (ne _ (by omega)).trans h6', (ne _ (by omega)).trans h7', h8.setCell (p := ⟨W6.heap.size, 0, none⟩) (by show w.heap.size ≤ W6.heap.size; omega) v⟩
  · exact ⟨SS.start, 0, rfl, Nat.zero_le _, Nat.zero_le _, HP0.out⟩
  · intro l pre x W hi hlen
    obtain ⟨⟨xn, xs⟩, hxs, hx1, hx2⟩ := x
    obtain ⟨st, N, g1, g2, g3, g4⟩ := hi
    have hxs' : xs.size ≤ 100000000 := hxs
    have G1 := Lib.hid g1
    have HPI := Lib.hid g4
    have hpl : pre.length ≤ 50000 := by
      have e3 := lines_len s.data.toList
      have e4 : s.data.toList.length = s.size := Array.length_toList
      omega
    clear g1 g4
    cases he : (xs.toList == []) with
    | true =>
      have hxe : xs.data.toList = [] := by have := he; rw [ByteArray.toList_eq] at this; simpa using this
      have HG := Lib.hid (show sayL st xs.data.toList = .ok st by unfold sayL; rw [if_pos (.inl hxe)])
      clear hxe
      gi_wp2
      exact ⟨KeepsFrom.refl _ _, ⟨rfl, Below.refl _ _⟩, st, N, sayAll_snoc G1.out HG.out, by (try simp); omega, by (try simp only [List.length_append, List.length_singleton]); omega, HPI.out⟩
    | false =>
      have hpos : 0 < xs.size := by
        rcases Nat.eq_zero_or_pos xs.size with h | h
        · have : xs.data.toList = [] := List.eq_nil_of_length_eq_zero (by rw [Array.length_toList]; exact h)
          rw [ByteArray.toList_eq, this] at he
          cases he
        · exact h
      have hpos' : (0 : Int) < (xs.size : Int) := by omega
      have hb0 : ∀ (h : 0 < xs.size), (xs[0]'h).toNat = bn xs 0 := fun h => bn_eq xs 0 h
      have hhd : xs.data.toList.head? = some 35 ↔ ((bn xs 0 : Int) == 35) = true := by
        rw [bn_bu, beq_iff_eq]
        have e1 : xs.data.toList.head? = some (bu xs 0) := by
          unfold bu
          cases h : xs.data.toList with
          | nil => exact absurd (show xs.size = 0 by have := congrArg List.length h; rw [Array.length_toList] at this; exact this) (by omega)
          | cons c r => simp
        rw [e1]
        constructor
        · intro h; injection h with h; rw [h]; rfl
        · intro h; congr 1; apply UInt8.toNat_inj.1; have : ((35 : UInt8).toNat : Int) = 35 := rfl; omega
      cases h35 : ((bn xs 0 : Int) == 35) with
      | true =>
        have HG := Lib.hid (show sayL st xs.data.toList = .ok st by unfold sayL; rw [if_pos (.inr (hhd.2 h35))])
        clear hhd
        gi_wp2
        exact ⟨KeepsFrom.refl _ _, ⟨rfl, Below.refl _ _⟩, st, N, sayAll_snoc G1.out HG.out, by (try simp); omega, by (try simp only [List.length_append, List.length_singleton]); omega, HPI.out⟩
      | false =>
        have HNC := Lib.hid (show ¬ (xs.data.toList = [] ∨ xs.data.toList.head? = some 35) from fun h => h.elim (fun h => by rw [ByteArray.toList_eq, h] at he; cases he) (fun h => by rw [hhd.1 h] at h35; cases h35))
        have CB := Lib.hid (show Calls Tryd.prog 32 #[.string xs, .string ⟨#[124, 32]⟩] W fun e w' => e = .returned (.tuple #[.string (cutO xs (behL barW xs.data.toList)).1, .bool (cutO xs (behL barW xs.data.toList)).2]) ∧ Below W.heap.size W w' from cutp_any xs ⟨#[124, 32]⟩ W)
        clear hhd
        cases hbar : behL barW xs.data.toList with
        | some r =>
          rw [hbar] at CB
          have CB2 : Hid (Calls Tryd.prog 32 #[.string xs, .string ⟨#[124, 32]⟩] W fun e w' => e = .returned (.tuple #[.string (ba r), .bool true]) ∧ Below W.heap.size W w') := CB
          have SL := Lib.hid (show sayL st xs.data.toList = .ok { st with prog := st.prog ++ (r ++ [10]) } by unfold sayL; rw [if_neg HNC.out, hbar, ← List.append_assoc])
          have hrl : (ba r).size ≤ 100000000 := by
            have e1 := behL_some hbar
            have e2 : xs.data.toList.length = xs.size := Array.length_toList
            rw [e1, List.length_append] at e2
            have e3 : (ba r).size = r.length := by show (ba r).data.size = _; simp [ba]
            omega
          have hrl2 : r.length ≤ 100000000 := by have e3 : (ba r).size = r.length := by show (ba r).data.size = _; simp [ba]
                                                 omega
          clear CB hbar
          gi_wp2
          refine ⟨trivial, ?_⟩
          refine (CallsIn.inRound l (callsIn_wide.2 CB2.out)).mono ?_
          rintro e w1 ⟨rfl, hb1⟩
          have P1 := Lib.hid (HPI.out.below hb1)
          have B1 := Lib.hid hb1
          have E := Lib.hid (show (ba r ++ ⟨#[10]⟩ : ByteArray).data.toList = r ++ [10] by rw [cat2]; simp [ba])
          have CW := Lib.hid (kb_any b4 b4 _ _ _ w1 P1.out.bl E.out (by simp only [List.length_append, List.length_singleton]; omega) (by have := P1.out.low.size; have := (bat_lt P1.out.bl); omega))
          have hcat : ¬ (9223372036854775807 < (ba r).size + 1) := by omega
          have hcat2 : ¬ (9223372036854775806 < (ba r).size) := by omega
          clear hb1 CB2
          gi_wp2
          refine ⟨trivial, ?_⟩
          refine (CallsIn.inRound l (callsIn_wide.2 CW.out)).mono ?_
          rintro e w2 ⟨rfl, i2, k2⟩
          have P2 := Lib.hid (P1.out.wrote HO.out k2 i2)
          have K2 := Lib.hid k2
          obtain ⟨cs, hcs⟩ := HPI.out.ln
          have HCS := Lib.hid hcs
          clear i2 k2 hcs CW
          gi_wp2
          refine ⟨(KeepsFrom.trans ⟨B1.out.size, fun k o _ hk _ => (B1.out.block k (heap_lt hk)).trans hk⟩ K2.out.from), ⟨?_, (B1.out.mono HPI.out.low.size).trans (K2.out.low.mono (by omega))⟩, { st with prog := st.prog ++ (r ++ [10]) }, N, sayAll_snoc G1.out SL.out, by simp; omega, ?_, P2.out⟩
          · rw [HCS.out]
            exact K2.out.keep _ _ ((B1.out.block _ (heap_lt HCS.out)).trans HCS.out) (far_cells (by decide))
          · simp only [List.length_append, List.length_singleton]
            omega
        | none =>
          rw [hbar] at CB
          have CB2 : Hid (Calls Tryd.prog 32 #[.string xs, .string ⟨#[124, 32]⟩] W fun e w' => e = .returned (.tuple #[.string xs, .bool false]) ∧ Below W.heap.size W w') := CB
          have SL := Lib.hid (sayL_q (st := st) HNC.out hbar)
          clear CB hbar
          gi_wp2
          refine ⟨trivial, ?_⟩
          refine (CallsIn.inRound l (callsIn_wide.2 CB2.out)).mono ?_
          rintro e w1 ⟨rfl, hb1⟩
          have P1 := Lib.hid (HPI.out.below hb1)
          have B1 := Lib.hid hb1
          obtain ⟨M, hM, hX⟩ := P1.out.mp
          have CS := Lib.hid (says_any b3 b5 N st M xs w1 hxs' P1.out.sb hM (by omega) hX (by omega) (HW.out.below P1.out.low) (HT.out.below P1.out.low) (HE.out.below P1.out.low))
          have m6 : w1.cell? ⟨b6, 0, none⟩ = some (.map (some b5)) := cell_of_row w1 b6 0 _ _ _ P1.out.mv
          clear hb1 CB2 hM hX
          gi_wp2
          refine ⟨trivial, ?_⟩
          refine (CallsIn.inRound l (callsIn_wide.2 CS.out)).mono ?_
          rintro e w2 ⟨er, rfl, hf, hres⟩
          have F2 := Lib.hid hf
          have B2 := Lib.hid (hf.low w.heap.size (by omega) (by omega) P1.out.low.size)
          obtain ⟨cs, hcs⟩ := HPI.out.ln
          have HCS := Lib.hid hcs
          have K1 := Lib.hid (show KeepsFrom W7.heap.size W w1 from ⟨B1.out.size, fun k o _ hk _ => (B1.out.block k (heap_lt hk)).trans hk⟩)
          have K2 := Lib.hid (show KeepsFrom W7.heap.size w1 w2 from ⟨F2.out.size, fun k o hB hk _ => F2.out.keep k o hk (by omega) (by omega)⟩)
          rcases hres with ⟨hq, hne⟩ | ⟨rfl, st', M', hq, hp, h1, h2, h3⟩
          · have R0 := F2.out.keep _ _ P1.out.r0 (by omega) (by omega)
            have R1 := F2.out.keep _ _ P1.out.r1 (by omega) (by omega)
            have R2 := F2.out.keep _ _ P1.out.r2 (by omega) (by omega)
            have SE := Lib.hid (SL.out.trans hq)
            have hne' : (er != 0) = true := by simpa using hne
            have HR := Lib.hid (put_boxes R0 R1 R2 (by omega) (by omega) (by omega) ⟨#[]⟩ ⟨#[]⟩ 0 0 0 0 xn er)
            have fz0 : ∀ j, w2.frozen? ⟨w.heap.size, j, none⟩ = false := fun j => by simp [World.frozen?, R0]
            have fz1 : w2.frozen? ⟨b1, 0, none⟩ = false := by simp [World.frozen?, R1]
            have fz2 : w2.frozen? ⟨b2, 0, none⟩ = false := by simp [World.frozen?, R2]
            have c0 := fun (j : Nat) => cell_of_row w2 w.heap.size j _ _ _ R0
            obtain ⟨y0, y1, y2, y3, y4, y5⟩ := box6 R0
            have y6 : w2.cell? ⟨b1, 0, none⟩ = some (.int .i64 0) := cell_of_row w2 b1 0 _ _ _ R1
            have y7 : w2.cell? ⟨b2, 0, none⟩ = some (.int .i64 0) := cell_of_row w2 b2 0 _ _ _ R2
            clear c0
            clear hq hcs hf CS m6
            gi_wp2
            refine (show KeepsFrom W7.heap.size W (errW w2 w.heap.size b1 b2 xn er) ∧ _ from ⟨KeepsFrom.trans K1.out (KeepsFrom.trans K2.out ⟨by rw [HR.out.2.2.2.2.1]; exact Nat.le_refl _, fun k o hB hk _ => (HR.out.2.2.2.1 k (by omega) (by omega) (by omega)).trans hk⟩), rfl, pre, ⟨(xn, xs), hxs, hx1, hx2⟩, st, er, rfl, G1.out, SE.out, hne, HR.out.1, HR.out.2.1, HR.out.2.2.1, (P1.out.low.trans B2.out).trans (HR.out.2.2.2.2.2 _ (Nat.le_refl _) (by omega) (by omega))⟩)
          · have P2 := Lib.hid (P1.out.said HO.out F2.out hp h1 h2 h3)
            have SE := Lib.hid (SL.out.trans hq)
            have HP := Lib.hid hp
            clear hq hcs hf hp h1 h2 h3 CS m6
            gi_wp2
            refine ⟨KeepsFrom.trans K1.out K2.out, ⟨?_, (B1.out.mono HPI.out.low.size).trans B2.out⟩, st', N + 1, sayAll_snoc G1.out SE.out, by simp; omega, by rw [HP.out]; simp only [List.length_append, List.length_singleton]; omega, P2.out⟩
            rw [HCS.out]
            exact F2.out.keep _ _ ((B1.out.block _ (heap_lt HCS.out)).trans HCS.out) (by omega) (by omega)
  · intro D xs W hD hS hi hK
    obtain ⟨st, N, g1, g2, g3, g4⟩ := hi
    rw [lns_num xs 1 _ hS] at g1
    have G1 := Lib.hid g1
    have HPI := Lib.hid g4
    have HK := Lib.hid hK
    obtain ⟨M, hM, hX⟩ := g4.mp
    have LK := hM.look (s := ⟨#[63, 32]⟩) (by decide)
    rw [show M (⟨#[63, 32]⟩ : ByteArray).data.toList = st.sq from hX.1] at LK
    have m6 : W.cell? ⟨b6, 0, none⟩ = some (.map (some b5)) := cell_of_row W b6 0 _ _ _ g4.mv
    have R0 := g4.r0
    have R1 := g4.r1
    have R2 := g4.r2
    have fz0 : ∀ j, W.frozen? ⟨w.heap.size, j, none⟩ = false := fun j => by simp [World.frozen?, R0]
    have fz1 : W.frozen? ⟨b1, 0, none⟩ = false := by simp [World.frozen?, R1]
    have fz2 : W.frozen? ⟨b2, 0, none⟩ = false := by simp [World.frozen?, R2]
    obtain ⟨y0, y1, y2, y3, y4, y5⟩ := box6 R0
    have y6 : W.cell? ⟨b1, 0, none⟩ = some (.int .i64 0) := cell_of_row W b1 0 _ _ _ R1
    have y7 : W.cell? ⟨b2, 0, none⟩ = some (.int .i64 0) := cell_of_row W b2 0 _ _ _ R2
    clear g1 g4 hM hX hS hK
    cases hsq : st.sq with
    | false =>
      rw [hsq] at LK
      have HR := Lib.hid (put_boxes R0 R1 R2 (by omega) (by omega) (by omega) ⟨#[]⟩ ⟨#[]⟩ 0 0 0 0 0 50)
      have HSQ := Lib.hid hsq
      clear hsq R0 R1 R2
      go_wp2_with fail
      have KD := Lib.hid ((HR.out.2.2.2.1 D (by omega) (by omega) (by omega)).trans HK.out)
      have ne : ∀ k, k ≠ D → ((errW W w.heap.size b1 b2 0 50).putObj D (.deferred none)).heap[k]? = (errW W w.heap.size b1 b2 0 50).heap[k]? := fun k hk => World.putObj_heap_other hk
      obtain ⟨z0, z1, z2, z3, z4, z5⟩ := box6 ((ne _ (by omega)).trans HR.out.1)
      have z6 : ((errW W w.heap.size b1 b2 0 50).putObj D (.deferred none)).cell? ⟨b1, 0, none⟩ = some (.int .i64 0) := cell_of_row _ b1 0 _ _ _ ((ne _ (by omega)).trans HR.out.2.1)
      have z7 : ((errW W w.heap.size b1 b2 0 50).putObj D (.deferred none)).cell? ⟨b2, 0, none⟩ = some (.int .i64 50) := cell_of_row _ b2 0 _ _ _ ((ne _ (by omega)).trans HR.out.2.2.1)
      have SC := Lib.hid (show scriptN s.data.toList = .error ((0 : Int).toNat, 50) by unfold scriptN; rw [G1.out]; dsimp only; rw [if_pos HSQ.out]; rfl)
      have WL := Lib.hid (HPI.out.low.trans (HR.out.2.2.2.2.2 _ (Nat.le_refl _) (by omega) (by omega)))
      clear ne
      refine retMD (v := .tuple #[.agg #[.string ⟨#[]⟩, .string ⟨#[]⟩, .int .i64 0, .int .i64 0, .int .i64 0, .int .i64 0], .int .i64 0, .int .i64 50]) (show (errW W w.heap.size b1 b2 0 50).heap[D]? = _ from KD.out) (show (results _ _).run _ ((errW W w.heap.size b1 b2 0 50).putObj D (.deferred none)) = .ok _ ((errW W w.heap.size b1 b2 0 50).putObj D (.deferred none)) from by generalize (errW W w.heap.size b1 b2 0 50).putObj D (.deferred none) = WF at *; simp [results, go_sem, z0, z1, z2, z3, z4, z5, z6, z7]) rfl ?_
      exact ⟨⟨_, _, _, _, _, _, _, _, rfl, .inl ⟨SC.out, by decide, by decide, rfl, rfl, rfl, rfl, rfl, rfl⟩⟩, WL.out.trans (belowK_b (w := w) (Nat.le_refl _) _ D _ _ (by omega) KD.out rfl rfl)⟩
    | true =>
      rw [hsq] at LK
      have HSQ := Lib.hid hsq
      have CK := Lib.hid (pcheck_any (st.lim 0) (st.lim 1) (st.lim 2) (st.lim 3) W)
      have S0 : W.heap[b3]? = _ := HPI.out.sb
      obtain ⟨s0, s1, s2, s3, s4, s5⟩ := box6 S0
      clear hsq S0
      cases hlim : lim4 (st.lim 0) (st.lim 1) (st.lim 2) (st.lim 3) with
      | false =>
        have hE : lim4E (st.lim 0) (st.lim 1) (st.lim 2) (st.lim 3) = 1 := by unfold lim4E; rw [hlim]; rfl
        rw [hE] at CK
        have HL := Lib.hid (show limOk st.lim = false from hlim)
        clear hE hlim
        go_wp2_with fail
        refine CK.out.mono ?_
        rintro e w1 ⟨rfl, hb1⟩
        have P1 := Lib.hid (HPI.out.below hb1)
        have K1 := Lib.hid ((hb1.block D (by have := HK.out; exact (Array.getElem?_eq_some_iff.1 this).1)).trans HK.out)
        have Q0 := P1.out.r0
        have Q1 := P1.out.r1
        have Q2 := P1.out.r2
        clear hb1 CK LK m6 R0 R1 R2 fz0 fz1 fz2 y0 y1 y2 y3 y4 y5 y6 y7 s0 s1 s2 s3 s4 s5
        have HR := Lib.hid (put_boxes Q0 Q1 Q2 (by omega) (by omega) (by omega) ⟨#[]⟩ ⟨#[]⟩ 0 0 0 0 0 1)
        have fz0 : ∀ j, w1.frozen? ⟨w.heap.size, j, none⟩ = false := fun j => by simp [World.frozen?, Q0]
        have fz1 : w1.frozen? ⟨b1, 0, none⟩ = false := by simp [World.frozen?, Q1]
        have fz2 : w1.frozen? ⟨b2, 0, none⟩ = false := by simp [World.frozen?, Q2]
        obtain ⟨y0, y1, y2, y3, y4, y5⟩ := box6 Q0
        have y6 : w1.cell? ⟨b1, 0, none⟩ = some (.int .i64 0) := cell_of_row w1 b1 0 _ _ _ Q1
        have y7 : w1.cell? ⟨b2, 0, none⟩ = some (.int .i64 0) := cell_of_row w1 b2 0 _ _ _ Q2
        clear Q0 Q1 Q2
        go_wp2_with fail
        have KD := Lib.hid ((HR.out.2.2.2.1 D (by omega) (by omega) (by omega)).trans K1.out)
        have ne : ∀ k, k ≠ D → ((errW w1 w.heap.size b1 b2 0 1).putObj D (.deferred none)).heap[k]? = (errW w1 w.heap.size b1 b2 0 1).heap[k]? := fun k hk => World.putObj_heap_other hk
        obtain ⟨z0, z1, z2, z3, z4, z5⟩ := box6 ((ne _ (by omega)).trans HR.out.1)
        have z6 : ((errW w1 w.heap.size b1 b2 0 1).putObj D (.deferred none)).cell? ⟨b1, 0, none⟩ = some (.int .i64 0) := cell_of_row _ b1 0 _ _ _ ((ne _ (by omega)).trans HR.out.2.1)
        have z7 : ((errW w1 w.heap.size b1 b2 0 1).putObj D (.deferred none)).cell? ⟨b2, 0, none⟩ = some (.int .i64 1) := cell_of_row _ b2 0 _ _ _ ((ne _ (by omega)).trans HR.out.2.2.1)
        have SC := Lib.hid (show scriptN s.data.toList = .error ((0 : Int).toNat, 1) by unfold scriptN; rw [G1.out]; dsimp only; rw [if_neg (by rw [HSQ.out]; decide), if_pos HL.out]; rfl)
        have WL := Lib.hid (P1.out.low.trans (HR.out.2.2.2.2.2 _ (Nat.le_refl _) (by omega) (by omega)))
        clear ne
        refine retMD (v := .tuple #[.agg #[.string ⟨#[]⟩, .string ⟨#[]⟩, .int .i64 0, .int .i64 0, .int .i64 0, .int .i64 0], .int .i64 0, .int .i64 1]) (show (errW w1 w.heap.size b1 b2 0 1).heap[D]? = _ from KD.out) (show (results _ _).run _ ((errW w1 w.heap.size b1 b2 0 1).putObj D (.deferred none)) = .ok _ ((errW w1 w.heap.size b1 b2 0 1).putObj D (.deferred none)) from by generalize (errW w1 w.heap.size b1 b2 0 1).putObj D (.deferred none) = WF at *; simp [results, go_sem, z0, z1, z2, z3, z4, z5, z6, z7]) rfl ?_
        exact ⟨⟨_, _, _, _, _, _, _, _, rfl, .inl ⟨SC.out, by decide, by decide, rfl, rfl, rfl, rfl, rfl, rfl⟩⟩, WL.out.trans (belowK_b (w := w) (Nat.le_refl _) _ D _ _ (by omega) KD.out rfl rfl)⟩
      | true =>
        have hE : lim4E (st.lim 0) (st.lim 1) (st.lim 2) (st.lim 3) = 0 := by unfold lim4E; rw [hlim]; rfl
        rw [hE] at CK
        have HL := Lib.hid (show limOk st.lim = true from hlim)
        clear hE hlim
        go_wp2_with fail
        refine CK.out.mono ?_
        rintro e w1 ⟨rfl, hb1⟩
        have P1 := Lib.hid (HPI.out.below hb1)
        have K1 := Lib.hid ((hb1.block D (by have := HK.out; exact (Array.getElem?_eq_some_iff.1 this).1)).trans HK.out)
        have CS := Lib.hid (Tryd.Builder_String_any_k b4 b4 _ w1 (Lib.IsBuilderF.of P1.out.bl) (Nat.le_of_lt (bat_lt P1.out.bl)))
        clear hb1 CK LK m6 R0 R1 R2 fz0 fz1 fz2 y0 y1 y2 y3 y4 y5 y6 y7 s0 s1 s2 s3 s4 s5
        go_wp2_with fail
        refine CS.out.mono ?_
        rintro e w2 ⟨rfl, _, hb2, ho2⟩
        have kp : ∀ (k : Nat) (cs : Array Value) (t : TypeId) (f : Nat × Nat), w1.heap[k]? = some (.cells cs t f) → k ≠ b4 → t ≠ 5 → w2.heap[k]? = some (.cells cs t f) := fun k cs t f hk h1 h2 => ho2 k _ hk (fun e => h1 (by injection e)) (fun c fz e => by injection e with _ e; exact h2 e)
        have K2 := Lib.hid (ho2 D _ K1.out (fun e => by injection e with e; omega) (fun c f e => by cases e))
        have Q0 := kp _ _ _ _ P1.out.r0 (by omega) (by decide)
        have Q1 := kp _ _ _ _ P1.out.r1 (by omega) (by decide)
        have Q2 := kp _ _ _ _ P1.out.r2 (by omega) (by decide)
        have Q3 := kp _ _ _ _ P1.out.sb (by omega) (by decide)
        have L2 := Lib.hid (P1.out.low.trans (hb2.mono (show w.heap.size ≤ b4 by omega)))
        obtain ⟨pgv, hpg⟩ : ∃ pgv : ByteArray, (⟨st.prog.toArray⟩ : ByteArray) = pgv := ⟨_, rfl⟩
        have HPG := Lib.hid (show pgv = ba st.prog from hpg.symm)
        rw [hpg]
        obtain ⟨W3, hW3⟩ : ∃ W3, w2.setCell ⟨b3, 0, none⟩ (.string pgv) = W3 := ⟨_, rfl⟩
        have n3 : ∀ k, k ≠ b3 → W3.heap[k]? = w2.heap[k]? := fun k hk => by rw [← hW3]; exact Below.heap_setCell _ _ _ k hk
        have T0 := (n3 _ (by omega)).trans Q0
        have T1 := (n3 _ (by omega)).trans Q1
        have T2 := (n3 _ (by omega)).trans Q2
        have T3 : W3.heap[b3]? = some (.cells #[.string pgv, .string (ba st.query), .int .i64 (st.lim 0), .int .i64 (st.lim 1), .int .i64 (st.lim 2), .int .i64 (st.lim 3)] 38 (0, 0)) := by rw [← hW3]; simpa using blk_set Q3 0 (.string pgv)
        have HR := Lib.hid (put_boxes T0 T1 T2 (by omega) (by omega) (by omega) pgv (ba st.query) (st.lim 0) (st.lim 1) (st.lim 2) (st.lim 3) 0 0)
        have L3 := Lib.hid (show Below w.heap.size w W3 by rw [← hW3]; exact L2.out.setCell (p := ⟨b3, 0, none⟩) (by show w.heap.size ≤ b3; omega) _)
        have K3 := Lib.hid ((n3 D (by omega)).trans K2.out)
        have fq3 : w2.frozen? ⟨b3, 0, none⟩ = false := by simp [World.frozen?, Q3]
        obtain ⟨q0, q1, q2, q3, q4, q5⟩ := box6 Q3
        have hW3h := Lib.hid hW3
        have fz0 : ∀ j, w2.frozen? ⟨w.heap.size, j, none⟩ = false := fun j => by simp [World.frozen?, Q0]
        have fz1 : w2.frozen? ⟨b1, 0, none⟩ = false := by simp [World.frozen?, Q1]
        have fz2 : w2.frozen? ⟨b2, 0, none⟩ = false := by simp [World.frozen?, Q2]
        obtain ⟨y0, y1, y2, y3, y4, y5⟩ := box6 Q0
        have y6 : w2.cell? ⟨b1, 0, none⟩ = some (.int .i64 0) := cell_of_row w2 b1 0 _ _ _ Q1
        have y7 : w2.cell? ⟨b2, 0, none⟩ = some (.int .i64 0) := cell_of_row w2 b2 0 _ _ _ Q2
        have nb3 : b3 ≠ w.heap.size ∧ b3 ≠ b1 ∧ b3 ≠ b2 := ⟨by omega, by omega, by omega⟩
        clear kp hb2 ho2 CS hpg hW3 n3 T0 T1 T2 T3 Q0 Q1 Q2 Q3
        go_wp2_with fail
        rw [hW3h.out]
        have KD := Lib.hid ((HR.out.2.2.2.1 D (by omega) (by omega) (by omega)).trans K3.out)
        have ne : ∀ k, k ≠ D → ((putW W3 w.heap.size b1 b2 pgv (ba st.query) (st.lim 0) (st.lim 1) (st.lim 2) (st.lim 3) 0 0).putObj D (.deferred none)).heap[k]? = (putW W3 w.heap.size b1 b2 pgv (ba st.query) (st.lim 0) (st.lim 1) (st.lim 2) (st.lim 3) 0 0).heap[k]? := fun k hk => World.putObj_heap_other hk
        obtain ⟨z0, z1, z2, z3, z4, z5⟩ := box6 ((ne _ (by omega)).trans HR.out.1)
        have z6 : ((putW W3 w.heap.size b1 b2 pgv (ba st.query) (st.lim 0) (st.lim 1) (st.lim 2) (st.lim 3) 0 0).putObj D (.deferred none)).cell? ⟨b1, 0, none⟩ = some (.int .i64 0) := cell_of_row _ b1 0 _ _ _ ((ne _ (by omega)).trans HR.out.2.1)
        have z7 : ((putW W3 w.heap.size b1 b2 pgv (ba st.query) (st.lim 0) (st.lim 1) (st.lim 2) (st.lim 3) 0 0).putObj D (.deferred none)).cell? ⟨b2, 0, none⟩ = some (.int .i64 0) := cell_of_row _ b2 0 _ _ _ ((ne _ (by omega)).trans HR.out.2.2.1)
        have SC := Lib.hid (show scriptN s.data.toList = .ok st by unfold scriptN; rw [G1.out]; dsimp only; rw [if_neg (by rw [HSQ.out]; decide), if_neg (by rw [HL.out]; decide)])
        have WL := Lib.hid (L3.out.trans (HR.out.2.2.2.2.2 _ (Nat.le_refl _) (by omega) (by omega)))
        clear ne
        refine retMD (v := .tuple #[.agg #[.string pgv, .string (ba st.query), .int .i64 (st.lim 0), .int .i64 (st.lim 1), .int .i64 (st.lim 2), .int .i64 (st.lim 3)], .int .i64 0, .int .i64 0]) (show (putW W3 w.heap.size b1 b2 pgv (ba st.query) (st.lim 0) (st.lim 1) (st.lim 2) (st.lim 3) 0 0).heap[D]? = _ from KD.out) (show (results _ _).run _ ((putW W3 w.heap.size b1 b2 pgv (ba st.query) (st.lim 0) (st.lim 1) (st.lim 2) (st.lim 3) 0 0).putObj D (.deferred none)) = .ok _ ((putW W3 w.heap.size b1 b2 pgv (ba st.query) (st.lim 0) (st.lim 1) (st.lim 2) (st.lim 3) 0 0).putObj D (.deferred none)) from by generalize (putW W3 w.heap.size b1 b2 pgv (ba st.query) (st.lim 0) (st.lim 1) (st.lim 2) (st.lim 3) 0 0).putObj D (.deferred none) = WF at *; simp [results, go_sem, z0, z1, z2, z3, z4, z5, z6, z7]) rfl ?_
        exact ⟨⟨_, _, _, _, _, _, _, _, rfl, .inr ⟨st, SC.out, rfl, rfl, HPG.out, rfl, rfl, rfl, rfl, rfl⟩⟩, WL.out.trans (belowK_b (w := w) (Nat.le_refl _) _ D _ _ (by omega) KD.out rfl rfl)⟩
  · intro D c pre' W hD hS hi hK
    obtain ⟨rfl, pre, x, st, er, rfl, g1, g2, hne, r0, r1, r2, hb⟩ := hi
    obtain ⟨r, hr⟩ := hS
    obtain ⟨hx1, r', hlr⟩ := num_pre pre x 1 _ r hr
    have HB := Lib.hid hb
    have HK := Lib.hid hK
    have SC := Lib.hid (show scriptN s.data.toList = .error (x.1.1.toNat, er) by
      unfold scriptN
      rw [hlr, sayAll_app, g1]
      simp only [sayAll, g2, lnsL, List.length_map]
      rw [hx1, Int.toNat_natCast])
    have hx0 : 0 ≤ x.1.1 := by rw [hx1]; omega
    have ne : ∀ k, k ≠ D → (W.putObj D (.deferred none)).heap[k]? = W.heap[k]? := fun k hk => World.putObj_heap_other hk
    obtain ⟨z0, z1, z2, z3, z4, z5⟩ := box6 ((ne _ (by omega)).trans r0)
    have z6 : (W.putObj D (.deferred none)).cell? ⟨b1, 0, none⟩ = some (.int .i64 x.1.1) := cell_of_row _ b1 0 _ _ _ ((ne _ (by omega)).trans r1)
    have z7 : (W.putObj D (.deferred none)).cell? ⟨b2, 0, none⟩ = some (.int .i64 er) := cell_of_row _ b2 0 _ _ _ ((ne _ (by omega)).trans r2)
    clear hr hlr g1 g2 hx1 ne r0 r1 r2 hK hb
    refine wpIn_wide.2 ?_
    go_wp2_with fail
    refine retMD (v := .tuple #[.agg #[.string ⟨#[]⟩, .string ⟨#[]⟩, .int .i64 0, .int .i64 0, .int .i64 0, .int .i64 0], .int .i64 x.1.1, .int .i64 er]) HK.out (by simp [results, go_sem, z0, z1, z2, z3, z4, z5, z6, z7]) rfl ?_
    exact ⟨⟨_, _, _, _, _, _, _, _, rfl, .inl ⟨SC.out, hx0, hne, rfl, rfl, rfl, rfl, rfl, rfl⟩⟩, HB.out.trans (belowK_b (w := w) (Nat.le_refl _) _ D _ _ (by omega) HK.out rfl rfl)⟩
end Go.Proofs.YtipddolkikhojaaDoor
