/- The reference's parser: next, mark, fail, wrong, must. -/
import Derived.Test.YtlgeepjlnjlgdaaRd1
import Derived.Deep.DeepMust
namespace Go.Proofs.Ytlgeepjlnjlgdaa
open Go.RowKit

theorem tok_cells {w : World} {c : Rdc} (h : TokW w c) {i : Nat} (hi : i < c.tn) : ∃ g, c.TA = some ⟨g, 0, none⟩ ∧ w.cell? ⟨g, i * 4, none⟩ = some (.int .i64 (nx c i).k) ∧ w.cell? ⟨g, i * 4 + 1, none⟩ = some (.string (nx c i).t) ∧
    w.cell? ⟨g, i * 4 + 2, none⟩ = some (.int .i64 ((nx c i).a : Int)) ∧ w.cell? ⟨g, i * 4 + 3, none⟩ = some (.int .i64 ((nx c i).b : Int)) := by
  obtain ⟨g, cur, hA, hg, hc⟩ := h.blk (by omega)
  have hl : i < c.tk.length := by have := h.len; omega
  have hx : nx c i = c.tk[i] := by simp [nx, hl]
  have key : ∀ j, j < 4 → w.cell? ⟨g, i * 4 + j, none⟩ = (nx c i).cells[j]? := fun j hj => by
    rw [cell_of_row w g (i * 4 + j) _ _ _ hg, hc _ (by omega), hx, Nat.mul_comm i 4]
    exact tkCells_at c.tk i hl j hj
  exact ⟨g, hA, by simpa [Tk.cells] using key 0 (by omega), by simpa [Tk.cells] using key 1 (by omega), by simpa [Tk.cells] using key 2 (by omega), by simpa [Tk.cells] using key 3 (by omega)⟩
set_option maxRecDepth 100000 in
set_option maxHeartbeats 1000000 in
theorem next_any {c : Rdc} {i : Nat} {er : Int} (w : World) (h : Rd w c i er) : Calls Try.prog 58 #[.pointer (some ⟨c.R, 0, none⟩)] w fun e w' => e = .returned (.agg #[.int .i64 (nx c i).k, .string (nx c i).t, .int .i64 ((nx c i).a : Int), .int .i64 ((nx c i).b : Int)]) ∧ Below w.heap.size w w' := by
  have hlt := h.lt
  obtain ⟨ht, nv, nn, names, place, hr⟩ := h
  obtain ⟨r0, r1, r2, r3, r4, r5⟩ := hr.cells
  have hup := hr.up
  have HT := Lib.hid ht
  clear hr ht
  by_cases hi : i < c.tn
  · have hi' : (i : Int) < (c.tn : Int) := by omega
    obtain ⟨g, hA, t0, t1, t2, t3⟩ := tok_cells HT.out hi
    rw [hA] at r1
    have hg := World.block_lt_of_cell? w _ t0
    dsimp only at hg
    go_enter Try.func58, Try.ntmps58
    go_wp2_with fail
    go_region
    go_wp2_with fail
    go_region
    go_wp2_with fail
    refine bodyPost_ret (v := (.agg #[.int .i64 (nx c i).k, .string (nx c i).t, .int .i64 ((nx c i).a : Int), .int .i64 ((nx c i).b : Int)])) (by simp [results, go_sem]) rfl ?_
    refine ⟨rfl, ?_⟩
    exact (((Below.refl _ _).alloc (Nat.le_refl _) _).drew).drew
  · have hi' : ¬ (i : Int) < (c.tn : Int) := by omega
    go_enter Try.func58, Try.ntmps58
    go_wp2_with fail
    go_region
    go_wp2_with fail
    have hx : nx c i = ⟨0, ⟨#[]⟩, c.s.size, 0⟩ := by
      have hl := HT.out.len
      simp [nx, show ¬ i < c.tk.length by omega]
    refine bodyPost_ret (v := (.agg #[.int .i64 (nx c i).k, .string (nx c i).t, .int .i64 ((nx c i).a : Int), .int .i64 ((nx c i).b : Int)])) (by simp [results, go_sem, hx]) rfl ?_
    refine ⟨rfl, ?_⟩
    exact ((Below.refl _ _).alloc (Nat.le_refl _) _).drew
set_option maxRecDepth 100000 in
set_option maxHeartbeats 1000000 in
theorem mark_any {c : Rdc} {i : Nat} {er : Int} (tx : ByteArray) (w : World) (h : Rd w c i er) : Calls Try.prog 69 #[.pointer (some ⟨c.R, 0, none⟩), .string tx] w fun e w' =>
    (∃ b, e = .returned (.bool b) ∧ (b = true → (nx c i).k = 5)) ∧ Below w.heap.size w w' := by
  go_enter Try.func69, Try.ntmps69
  go_wp2_with fail
  refine (next_any _ h).mono ?_
  rintro e w1 ⟨rfl, h1⟩
  by_cases h5 : (nx c i).k = 5
  · have h5' : ((nx c i).k == 5) = true := by simpa using h5
    go_wp2
    go_ret
    exact ⟨⟨_, rfl, fun _ => h5⟩, h1.alloc h1.size _⟩
  · have h5' : ((nx c i).k == 5) = false := by simpa using h5
    go_wp2
    go_ret
    exact ⟨⟨_, rfl, fun h => by cases h⟩, h1.alloc h1.size _⟩
set_option maxRecDepth 100000 in
set_option maxHeartbeats 1000000 in
theorem fail_any {c : Rdc} {i : Nat} {er : Int} (p k : Int) (w : World) (hk : k ≠ 0) (h : Rd w c i er) : Calls Try.prog 67 #[.pointer (some ⟨c.R, 0, none⟩), .int .i64 p, .int .i64 k] w fun e w' =>
    e = .returned (.tuple #[]) ∧ (∃ er', Rd w' c i er' ∧ er' ≠ 0) ∧ Fr c w w' := by
  have H := Lib.hid h
  have hBR := h.1.BR
  obtain ⟨ht, nv, nn, names, place, hr⟩ := h
  obtain ⟨r0, r1, r2, r3, r4, r5⟩ := hr.cells
  have rf := hr.thaw
  clear hr ht
  by_cases h0 : er = 0
  · subst h0
    go_enter Try.func67, Try.ntmps67
    go_wp2
    go_end0
    exact ⟨rfl, ⟨k, (H.out.place p).err k, hk⟩, (Fr.setR hBR _ _).trans (Fr.setR hBR _ _)⟩
  · have h0' : (er == 0) = false := by simpa using h0
    go_enter Try.func67, Try.ntmps67
    go_wp2
    go_end0
    exact ⟨rfl, ⟨er, H.out, h0⟩, Fr.refl _ _⟩
theorem fld_tok2 (a b d : Value) (n : Int) (W : World) : (Instr.field 72 (.agg #[a, b, .int .i64 n, d]) 2).run Try.prog W = .ok (.int .i64 n) W := by kernel_rfl
set_option maxRecDepth 100000 in
set_option maxHeartbeats 1000000 in
theorem wrong_any {c : Rdc} {i : Nat} {er : Int} (w : World) (h : Rd w c i er) : Calls Try.prog 59 #[.pointer (some ⟨c.R, 0, none⟩)] w fun e w' =>
    e = .returned (.tuple #[]) ∧ (∃ er', Rd w' c i er' ∧ er' ≠ 0) ∧ Fr c w w' := by
  have H := Lib.hid h
  clear h
  have fl := fld_tok2
  go_enter Try.func59, Try.ntmps59
  go_wp2_with fail
  refine (next_any _ H.out).mono ?_
  rintro e w1 ⟨rfl, h1⟩
  go_wp2_with fail
  refine (fail_any _ 50 _ (by decide) (H.out.below h1)).mono ?_
  rintro e w2 ⟨rfl, ⟨er2, h2, hn2⟩, f2⟩
  go_wp2_with fail
  go_end0
  exact ⟨rfl, ⟨er2, h2, hn2⟩, (Fr.of_below h1 H.out.base).trans f2⟩
set_option maxRecDepth 100000 in
set_option maxHeartbeats 1000000 in
theorem rmust_any {c : Rdc} {i : Nat} {er : Int} (tx : ByteArray) (w : World) (h : Rd w c i er) : Calls Try.prog 79 #[.pointer (some ⟨c.R, 0, none⟩), .string tx] w fun e w' =>
    e = .returned (.tuple #[]) ∧ (∃ j er', Rd w' c j er' ∧ i ≤ j ∧ (er' = 0 → er = 0 ∧ j = i + 1)) ∧ Fr c w w' := by
  have H := Lib.hid h
  have hBR := h.1.BR
  obtain ⟨ht, nv, nn, names, place, hr⟩ := h
  obtain ⟨r0, r1, r2, r3, r4, r5⟩ := hr.cells
  clear hr ht
  by_cases h0 : er = 0
  · subst h0
    go_enter Try.func79, Try.ntmps79
    go_wp2_with fail
    refine (mark_any tx _ H.out).mono ?_
    rintro e w1 ⟨⟨b, rfl, hb⟩, h1⟩
    have H1 := Lib.hid (H.out.below h1)
    have F1 := Lib.hid (Fr.of_below h1 H.out.base)
    clear h1
    cases b with
    | false =>
      go_wp2_with fail
      refine (wrong_any _ H1.out).mono ?_
      rintro e w2 ⟨rfl, ⟨er2, h2, hn2⟩, f2⟩
      go_wp2_with fail
      refine bodyPost_ret (results_none rfl _ _ _) rfl ?_
      exact ⟨rfl, ⟨_, _, h2, Nat.le_refl _, fun h => absurd h hn2⟩, F1.out.trans f2⟩
    | true =>
      have hlt := nx_lt H1.out (by rw [hb rfl]; decide)
      have H2 := Lib.hid (H1.out.next hlt)
      have F2 := Lib.hid (F1.out.trans (Fr.setR hBR 2 (.int .i64 ((i : Int) + 1))))
      have hle := Lib.hid H1.out.1.few
      obtain ⟨_, _, _, _, _, hr1⟩ := H1.out
      obtain ⟨r0, r1, r2, r3, r4, r5⟩ := hr1.cells
      have rf := hr1.thaw
      have hi : (i : Int) < 1000 := by have := hle.out; omega
      clear hr1 hb
      go_wp2_with fail
      go_end0
      exact ⟨rfl, ⟨_, _, H2.out, by omega, fun _ => by simp⟩, F2.out⟩
  · have h0' : (er != 0) = true := by simpa using h0
    go_enter Try.func79, Try.ntmps79
    go_wp2
    refine bodyPost_ret (results_none rfl _ _ _) rfl ?_
    exact ⟨rfl, ⟨i, er, H.out, Nat.le_refl _, fun h => absurd h h0⟩, Fr.refl _ _⟩
end Go.Proofs.Ytlgeepjlnjlgdaa
