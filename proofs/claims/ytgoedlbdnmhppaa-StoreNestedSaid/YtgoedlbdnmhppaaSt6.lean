/- The program's store: Attr, Set; Undo where there is no such mark. -/
import Derived.Test.YtgoedlbdnmhppaaSt5
namespace Go.Proofs.Ytgoedlbdnmhppaa
open Go.RowKit

theorem belS {w w' : World} (h : Below w.heap.size w w') (o : Obj) : Below w.heap.size w (w'.alloc o) := h.alloc h.size o
def SetP (w : World) (B sb n : Nat) (C : List CV) (R : List (CV × Nat)) (M : List (Nat × Nat)) (c : CV) (a : TV) (e : Ending) (w' : World) : Prop :=
  (c.b = true ∧ e = .returned (.int .i64 1) ∧ Below w.heap.size w w') ∨ (c.b = false ∧ e = .returned (.int .i64 0) ∧ SM w' B sb (C.set n ⟨false, c.to, a⟩) (R ++ [(c, n)]) M ∧ SF B w w')
def noneV : Value := .agg #[.int .i64 0, .int .i64 0, .string ⟨#[]⟩, .slice none 0 0]
set_option maxRecDepth 100000 in
set_option maxHeartbeats 4000000 in
theorem sattr_in {w : World} {B sb : Nat} {C : List CV} {R : List (CV × Nat)} {M : List (Nat × Nat)} (h : SM w B sb C R M) {n : Nat} {c : CV} (ho : C[n]? = some c) :
    Calls Try.prog 20 #[.pointer (some ⟨sb, 0, none⟩), .int .i64 (n : Int)] w fun e w' => e = .returned c.attr.val ∧ Below w.heap.size w w' := by
  have hnl : n < C.length := by
    rcases Nat.lt_or_ge n C.length with h1 | h1
    · exact h1
    · rw [List.getElem?_eq_none h1] at ho; cases ho
  obtain ⟨A0, c0, A1, c1, A2, c2, hb, h0, h1, h2⟩ := h.ex
  obtain ⟨g0, rfl, hg0, ⟨cs0, hh0, hz0⟩, hc0, hel⟩ := own_elem cvals_len h0 (i := n) ho rfl
  have b0 := cell_of_row w sb 0 _ _ _ hb
  have hl := heap_lt hb
  have hl0 := heap_lt hh0
  obtain ⟨q, ⟨tk, tn, ts, tA, tm, tc⟩, ⟨ak, an, as_, aA, am, ac⟩⟩ := c
  have o5 := hel 5 _ rfl
  have o6 := hel 6 _ rfl
  have o7 := hel 7 _ rfl
  have o8 := hel 8 _ rfl
  have hni : (n : Int) < (C.length : Int) := by omega
  have hn0 : ¬ ((n : Int) < 0) := by omega
  have hnge : ¬ ((n : Int) ≥ (C.length : Int)) := by omega
  clear hb h h0 h1 h2 hel hh0 ho
  go_enter Try.func20, Try.ntmps20
  go_wp2_with fail
  refine bodyPost_ret (v := .agg #[.int .i64 ak, .int .i64 an, .string as_, .slice aA am ac]) (by simp [results, go_sem]) rfl ?_
  exact ⟨rfl, (belS (Below.refl _ _) _)⟩
set_option maxRecDepth 100000 in
set_option maxHeartbeats 4000000 in
theorem sattr_out {w : World} {B sb : Nat} {C : List CV} {R : List (CV × Nat)} {M : List (Nat × Nat)} (h : SM w B sb C R M) {n : Int} (ho : n < 0 ∨ (C.length : Int) ≤ n) :
    Calls Try.prog 20 #[.pointer (some ⟨sb, 0, none⟩), .int .i64 n] w fun e w' => e = .returned noneV ∧ Below w.heap.size w w' := by
  obtain ⟨A0, c0, A1, c1, A2, c2, hb, h0, h1, h2⟩ := h.ex
  have b0 := cell_of_row w sb 0 _ _ _ hb
  have hl := heap_lt hb
  clear hb h h0 h1 h2
  by_cases hn : n < 0
  · go_enter Try.func20, Try.ntmps20
    go_wp2_with fail
    refine bodyPost_ret (v := noneV) (by simp [results, go_sem, noneV]) rfl ?_
    exact ⟨rfl, (belS (Below.refl _ _) _)⟩
  · have hge : n ≥ (C.length : Int) := by omega
    clear ho
    go_enter Try.func20, Try.ntmps20
    go_wp2_with fail
    refine bodyPost_ret (v := noneV) (by simp [results, go_sem, noneV]) rfl ?_
    exact ⟨rfl, (belS (Below.refl _ _) _)⟩
set_option maxRecDepth 100000 in
set_option maxHeartbeats 4000000 in
theorem sset_out {w : World} {B sb : Nat} {C : List CV} {R : List (CV × Nat)} {M : List (Nat × Nat)} (h : SM w B sb C R M) {n : Int} (ho : n < 0 ∨ (C.length : Int) ≤ n) (a : TV) :
    Calls Try.prog 21 #[.pointer (some ⟨sb, 0, none⟩), .int .i64 n, a.val] w fun e w' => e = .returned (.int .i64 1) ∧ Below w.heap.size w w' := by
  obtain ⟨A0, c0, A1, c1, A2, c2, hb, h0, h1, h2⟩ := h.ex
  have b0 := cell_of_row w sb 0 _ _ _ hb
  have hl := heap_lt hb
  obtain ⟨ak, an, as_, aA, am, ac⟩ := a
  show Calls Try.prog 21 #[.pointer (some ⟨sb, 0, none⟩), .int .i64 n, .agg #[.int .i64 ak, .int .i64 an, .string as_, .slice aA am ac]] w _
  clear hb h h0 h1 h2
  by_cases hn : n < 0
  · go_enter Try.func21, Try.ntmps21
    go_wp2_with fail
    go_ret
    exact ⟨rfl, (belS (Below.refl _ _) _)⟩
  · have hge : n ≥ (C.length : Int) := by omega
    clear ho
    go_enter Try.func21, Try.ntmps21
    go_wp2_with fail
    go_ret
    exact ⟨rfl, (belS (Below.refl _ _) _)⟩
set_option maxRecDepth 100000 in
set_option maxHeartbeats 4000000 in
theorem sset_in {w : World} {B sb : Nat} {C : List CV} {R : List (CV × Nat)} {M : List (Nat × Nat)} (h : SM w B sb C R M) (hn : R.length ≤ 1000000) {n : Nat} {c : CV} (ho : C[n]? = some c) (a : TV) :
    Calls Try.prog 21 #[.pointer (some ⟨sb, 0, none⟩), .int .i64 (n : Int), a.val] w fun e w' => SetP w B sb n C R M c a e w' := by
  have hnl : n < C.length := by
    rcases Nat.lt_or_ge n C.length with h1 | h1
    · exact h1
    · rw [List.getElem?_eq_none h1] at ho; cases ho
  obtain ⟨A0, c0, A1, c1, A2, c2, hb, h0, h1, h2⟩ := h.ex
  obtain ⟨g0, rfl, hg0, ⟨cs0, hh0, hz0⟩, hc0, hel⟩ := own_elem cvals_len h0 (i := n) ho rfl
  have b0 := cell_of_row w sb 0 _ _ _ hb
  have hl := heap_lt hb
  have hl0 := heap_lt hh0
  have hBw : B ≤ w.heap.size := by have := h.ge; omega
  obtain ⟨ak, an, as_, aA, am, ac⟩ := a
  obtain ⟨q, ⟨tk, tn, ts, tA, tm, tc⟩, ⟨pk, pn, ps, pA, pm, pc⟩⟩ := c
  show Calls Try.prog 21 #[.pointer (some ⟨sb, 0, none⟩), .int .i64 (n : Int), .agg #[.int .i64 ak, .int .i64 an, .string as_, .slice aA am ac]] w _
  have o0 := hel 0 _ rfl
  have o1 := hel 1 _ rfl
  have o2 := hel 2 _ rfl
  have o3 := hel 3 _ rfl
  have o4 := hel 4 _ rfl
  have o5 := hel 5 _ rfl
  have o6 := hel 6 _ rfl
  have o7 := hel 7 _ rfl
  have o8 := hel 8 _ rfl
  simp only [Nat.add_zero] at o0
  have hni : (n : Int) < (C.length : Int) := by omega
  have hn0 : ¬ ((n : Int) < 0) := by omega
  have hnge : ¬ ((n : Int) ≥ (C.length : Int)) := by omega
  have H := Lib.hid h
  have HO := Lib.hid ho
  clear hb h h0 h1 h2 hel hh0 ho
  cases q with
  | true =>
    go_enter Try.func21, Try.ntmps21
    go_wp2_with fail
    go_ret
    exact .inl ⟨rfl, rfl, (belS (Below.refl _ _) _)⟩
  | false =>
    have CC := Lib.hid (fun (W : World) (hW : Below w.heap.size w W) => schange_any (H.out.below hW) hn HO.out ⟨false, ⟨tk, tn, ts, tA, tm, tc⟩, ⟨ak, an, as_, aA, am, ac⟩⟩)
    have SB := Lib.hid (fun (W : World) (hW : Below w.heap.size w W) => SF.below hBw hW)
    go_enter Try.func21, Try.ntmps21
    go_wp2_with fail
    refine (CC.out _ (belS (belS (Below.refl _ _) _) _)).mono ?_
    rintro e w5 ⟨rfl, hs, hf⟩
    have S := Lib.hid hs
    have F := Lib.hid ((SB.out _ (belS (belS (Below.refl _ _) _) _)).trans hf)
    clear hs hf CC SB
    go_wp2_with fail
    go_ret
    exact .inr ⟨rfl, rfl, S.out, F.out⟩
set_option maxRecDepth 100000 in
theorem sundo_out {w : World} {B sb : Nat} {C : List CV} {R : List (CV × Nat)} {M : List (Nat × Nat)} (h : SM w B sb C R M) {n : Int} (ho : n < 0 ∨ (M.length : Int) ≤ n) :
    Calls Try.prog 18 #[.pointer (some ⟨sb, 0, none⟩), .int .i64 n] w fun e w' => e = .returned (.int .i64 1) ∧ w' = w := by
  obtain ⟨A0, c0, A1, c1, A2, c2, hb, h0, h1, h2⟩ := h.ex
  have b2 := cell_of_row w sb 2 _ _ _ hb
  have hl := heap_lt hb
  clear hb h h0 h1 h2
  by_cases hn : n < 0
  · go_enter Try.func18, Try.ntmps18
    go_wp2_with fail
    go_ret
    exact ⟨rfl, rfl⟩
  · have hge : n ≥ (M.length : Int) := by omega
    clear ho
    go_enter Try.func18, Try.ntmps18
    go_wp2_with fail
    go_ret
    exact ⟨rfl, rfl⟩
end Go.Proofs.Ytgoedlbdnmhppaa
