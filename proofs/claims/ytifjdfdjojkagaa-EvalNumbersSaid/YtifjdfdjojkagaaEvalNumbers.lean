/- The walk through the law EvalNumbers. -/
import Derived.Test.YtifjdfdjojkagaaEvalR4
namespace Go.Proofs.Ytifjdfdjojkagaa
open Go.RowKit Dg

theorem name_at (i : Nat) (h : i < 17) : ∃ s : ByteArray, [Value.string { data := #[43] }, Value.string { data := #[45] }, Value.string { data := #[42] }, Value.string { data := #[47, 47] }, Value.string { data := #[114, 101, 109] }, Value.string { data := #[100, 105, 118] }, Value.string { data := #[109, 111, 100] }, Value.string { data := #[94] }, Value.string { data := #[103, 99, 100] }, Value.string { data := #[60, 60] }, Value.string { data := #[62, 62] }, Value.string { data := #[109, 105, 110] }, Value.string { data := #[109, 97, 120] }, Value.string { data := #[97, 98, 115] }, Value.string { data := #[115, 105, 103, 110] }, Value.string { data := #[102, 111, 111] }, Value.string { data := #[] }][i]? = some (.string s) := by
  match i, h with
  | 0, _ => exact ⟨_, rfl⟩
  | 1, _ => exact ⟨_, rfl⟩
  | 2, _ => exact ⟨_, rfl⟩
  | 3, _ => exact ⟨_, rfl⟩
  | 4, _ => exact ⟨_, rfl⟩
  | 5, _ => exact ⟨_, rfl⟩
  | 6, _ => exact ⟨_, rfl⟩
  | 7, _ => exact ⟨_, rfl⟩
  | 8, _ => exact ⟨_, rfl⟩
  | 9, _ => exact ⟨_, rfl⟩
  | 10, _ => exact ⟨_, rfl⟩
  | 11, _ => exact ⟨_, rfl⟩
  | 12, _ => exact ⟨_, rfl⟩
  | 13, _ => exact ⟨_, rfl⟩
  | 14, _ => exact ⟨_, rfl⟩
  | 15, _ => exact ⟨_, rfl⟩
  | 16, _ => exact ⟨_, rfl⟩
  | n + 17, h => omega

/-- A compound term of m arguments that lie in one block. -/
theorem tin_int {w : World} {B : Nat} (n : Int) (f : Nat → T) : TIn w B (.mk 2 n noName 0 f) (.agg #[.int .i64 2, .int .i64 n, .string ⟨#[]⟩, .slice none 0 0]) :=
  ⟨none, 0, rfl, Nat.le_refl _, fun _ => rfl, fun h => absurd h (by decide)⟩
theorem tin_cmp {w : World} {B g m : Nat} (s : ByteArray) (a b : Int) (f : Nat → T) (t : Nat → T) (hm : m ≤ 2) (hg : g < B) (t0 : t 0 = .mk 2 a noName 0 f) (t1 : t 1 = .mk 2 b noName 0 f)
    (h : w.heap[g]? = some (.cells #[.int .i64 2, .int .i64 a, .string ⟨#[]⟩, .slice none 0 0, .int .i64 2, .int .i64 b, .string ⟨#[]⟩, .slice none 0 0] 29 (0, 0))) :
    TIn w B (.mk 4 0 s m t) (.agg #[.int .i64 4, .int .i64 0, .string s, .slice (some ⟨g, 0, none⟩) m 2]) := by
  refine ⟨_, _, rfl, hm, (fun h => by cases h), fun _ => ⟨g, 0, rfl, hg, fun i hi => ?_⟩⟩
  have hr := fun (j : Nat) => cell_of_row _ _ j _ _ _ h
  rcases (by omega : i = 0 ∨ i = 1) with rfl | rfl
  · exact ⟨_, _, _, _, hr 0, hr 1, hr 2, hr 3, by rw [t0]; exact tin_int a f⟩
  · exact ⟨_, _, _, _, hr 4, hr 5, hr 6, hr 7, by rw [t1]; exact tin_int b f⟩
/-- What both Evals hand back at a compound of two numbers (of the first m of them), in any world where these lie in block g. -/
theorem both_evals (s : ByteArray) (a b : Int) (m g : Nat) (hm : m ≤ 2) (ha : InR a) (hb : InR b) : ∃ (x fk fn : Int) (fs : ByteArray), ∀ w : World,
    w.heap[g]? = some (.cells #[.int .i64 2, .int .i64 a, .string ⟨#[]⟩, .slice none 0 0, .int .i64 2, .int .i64 b, .string ⟨#[]⟩, .slice none 0 0] 29 (0, 0)) →
    (Calls Try.prog 10 #[.agg #[.int .i64 4, .int .i64 0, .string s, .slice (some ⟨g, 0, none⟩) m 2]] w fun e w' => e = .returned (.tuple #[.int .i64 x, .agg #[.int .i64 fk, .string fs, .int .i64 fn]]) ∧ Below w.heap.size w w') ∧
    (Calls Try.prog 11 #[.agg #[.int .i64 4, .int .i64 0, .string s, .slice (some ⟨g, 0, none⟩) m 2]] w fun e w' => e = .returned (.tuple #[.int .i64 x, .agg #[.int .i64 fk, .string fs, .int .i64 fn]]) ∧ Below w.heap.size w w') := by
  let t : T := .mk 4 0 s m fun i => if i = 0 then .mk 2 a noName 0 fun _ => .nil else .mk 2 b noName 0 fun _ => .nil
  have hr : t.inR := ⟨⟨by decide, by decide⟩, fun i _ => by
    dsimp only
    split
    · exact ⟨ha, fun i h => absurd h (by omega)⟩
    · exact ⟨hb, fun i h => absurd h (by omega)⟩⟩
  have hat : t.atoms := ⟨fun h => absurd h (by decide), fun i _ => by
    dsimp only
    split
    · exact ⟨fun h => absurd h (by decide), fun i h => absurd h (by omega)⟩
    · exact ⟨fun h => absurd h (by decide), fun i h => absurd h (by omega)⟩⟩
  obtain ⟨x, fk, fn, fs, he⟩ : ∃ (x fk fn : Int) (fs : ByteArray), evPair (evT t) = .returned (.tuple #[.int .i64 x, .agg #[.int .i64 fk, .string fs, .int .i64 fn]]) := by
    cases evT t with
    | val x => exact ⟨_, _, _, _, rfl⟩
    | flt k s n => exact ⟨_, _, _, _, rfl⟩
  refine ⟨x, fk, fn, fs, fun w h => ?_⟩
  have hv : TIn w w.heap.size t (.agg #[.int .i64 4, .int .i64 0, .string s, .slice (some ⟨g, 0, none⟩) m 2]) := tin_cmp s a b (fun _ => .nil) _ hm (World.lt_of_heap h) rfl rfl h
  rw [← he]
  exact ⟨eval_any t _ w hv hr, refEval_any t hr hat _ w hv⟩
/-- The memory of the law's walk: the arguments' block, the boxes of the two terms. -/
structure NW (w : World) (s : ByteArray) (a b : Int) (W : World) : Prop where
  below : Below w.heap.size w W
  arg : W.heap[w.heap.size + 1]? = some (.cells #[.int .i64 2, .int .i64 a, .string ⟨#[]⟩, .slice none 0 0, .int .i64 2, .int .i64 b, .string ⟨#[]⟩, .slice none 0 0] 29 (0, 0))
  t : W.heap[w.heap.size + 1 + 1]? = some (.cells #[.int .i64 4, .int .i64 0, .string s, .slice (some ⟨w.heap.size + 1, 0, none⟩) 2 2] 29 (0, 0))
  u : W.heap[w.heap.size + 1 + 1 + 1]? = some (.cells #[.int .i64 4, .int .i64 0, .string s, .slice (some ⟨w.heap.size + 1, 0, none⟩) 1 2] 29 (0, 0))
theorem NW.step {w W W' : World} {s : ByteArray} {a b : Int} (h : NW w s a b W) (hb : Below W.heap.size W W') : NW w s a b W' :=
  ⟨h.below.trans (hb.mono h.below.size), (hb.block _ (World.lt_of_heap h.arg)).trans h.arg, (hb.block _ (World.lt_of_heap h.t)).trans h.t, (hb.block _ (World.lt_of_heap h.u)).trans h.u⟩
theorem NW.alloc {w W : World} {s : ByteArray} {a b : Int} (h : NW w s a b W) (o : Obj) : NW w s a b (W.alloc o) := h.step ((Below.refl _ _).alloc (Nat.le_refl _) o)
theorem NW.start (w : World) (s : ByteArray) (a b : Int) (o1 : Obj) : NW w s a b ((((w.alloc o1).alloc (.cells #[.int .i64 2, .int .i64 a, .string ⟨#[]⟩, .slice none 0 0, .int .i64 2, .int .i64 b, .string ⟨#[]⟩, .slice none 0 0] 29)).alloc
    (.cells #[.int .i64 4, .int .i64 0, .string s, .slice (some ⟨w.heap.size + 1, 0, none⟩) 2 2] 29)).alloc (.cells #[.int .i64 4, .int .i64 0, .string s, .slice (some ⟨w.heap.size + 1, 0, none⟩) 1 2] 29)) := by
  refine ⟨((((Below.refl _ _).alloc (Nat.le_refl _) _).alloc (by simp) _).alloc (by simp <;> omega) _).alloc (by simp <;> omega) _, ?_, ?_, ?_⟩
  · rw [Below.heap_alloc _ _ _ (by simp <;> omega), Below.heap_alloc _ _ _ (by simp)]; exact (congrArg _ (by simp)).trans (heap_alloc_new _ _)
  · rw [Below.heap_alloc _ _ _ (by simp)]; exact (congrArg _ (by simp)).trans (heap_alloc_new _ _)
  · exact (congrArg _ (by simp)).trans (heap_alloc_new _ _)
set_option maxRecDepth 100000 in
set_option maxHeartbeats 4000000 in
theorem numbers_any (a b t : Int) (w : World) (ha : InR a) (hb : InR b) (ht : 0 ≤ t) (ht' : t ≤ 255) :
    Calls Try.prog 6 #[.int .i64 a, .int .i64 b, .int .u8 t] w fun e w' => e = .returned (.bool true) ∧ Below w.heap.size w w' := by
  obtain ⟨s, hs⟩ := name_at (t % 17).toNat (by omega)
  go_enter Try.func6, Try.ntmps6
  obtain ⟨x2, k2, n2, s2, h2⟩ := both_evals s a b 2 (w.heap.size + 1) (Nat.le_refl _) ha hb
  obtain ⟨x1, k1, n1, s1, h1⟩ := both_evals s a b 1 (w.heap.size + 1) (by decide) ha hb
  go_wp2_with fail
  refine (h2 _ (NW.start w s a b _).arg).1.mono ?_
  rintro e w5 ⟨rfl, h5⟩
  have N5 := Lib.hid (((NW.start w s a b _).step h5).alloc (Obj.cells #[.int .i64 k2, .string s2, .int .i64 n2] 31))
  have A5 := Lib.hid (heap_alloc_new w5 (Obj.cells #[.int .i64 k2, .string s2, .int .i64 n2] 31))
  clear h5 hs
  obtain ⟨y0, y1, y2, y3⟩ := box4 N5.out.t
  go_wp2_with fail
  refine (h2 _ N5.out.arg).2.mono ?_
  rintro e w6 ⟨rfl, h6⟩
  have N6 := Lib.hid ((N5.out.step h6).alloc (Obj.cells #[.int .i64 k2, .string s2, .int .i64 n2] 31))
  have A6 := Lib.hid ((Below.heap_alloc w6 (Obj.cells #[.int .i64 k2, .string s2, .int .i64 n2] 31) w5.heap.size (by have := h6.size; simp at this; omega)).trans ((h6.block w5.heap.size (by simp)).trans A5.out))
  have B6 := Lib.hid (heap_alloc_new w6 (Obj.cells #[.int .i64 k2, .string s2, .int .i64 n2] 31))
  clear h6 y0 y1 y2 y3 A5 N5
  obtain ⟨y0, y1, y2, y3⟩ := box4 N6.out.u
  go_wp2_with fail
  refine (h1 _ N6.out.arg).1.mono ?_
  rintro e w7 ⟨rfl, h7⟩
  have N7 := Lib.hid ((N6.out.step h7).alloc (Obj.cells #[.int .i64 k1, .string s1, .int .i64 n1] 31))
  have A7 := Lib.hid ((Below.heap_alloc w7 (Obj.cells #[.int .i64 k1, .string s1, .int .i64 n1] 31) w5.heap.size (Nat.lt_of_lt_of_le (World.lt_of_heap A6.out) h7.size)).trans ((h7.block w5.heap.size (World.lt_of_heap A6.out)).trans A6.out))
  have B7 := Lib.hid ((Below.heap_alloc w7 (Obj.cells #[.int .i64 k1, .string s1, .int .i64 n1] 31) w6.heap.size (Nat.lt_of_lt_of_le (World.lt_of_heap B6.out) h7.size)).trans ((h7.block w6.heap.size (World.lt_of_heap B6.out)).trans B6.out))
  have C7 := Lib.hid (heap_alloc_new w7 (Obj.cells #[.int .i64 k1, .string s1, .int .i64 n1] 31))
  clear h7 y0 y1 y2 y3 A6 B6 N6
  obtain ⟨y0, y1, y2, y3⟩ := box4 N7.out.u
  go_wp2_with fail
  refine (h1 _ N7.out.arg).2.mono ?_
  rintro e w8 ⟨rfl, h8⟩
  have N8 := Lib.hid ((N7.out.step h8).alloc (Obj.cells #[.int .i64 k1, .string s1, .int .i64 n1] 31))
  have A8 := Lib.hid ((Below.heap_alloc w8 (Obj.cells #[.int .i64 k1, .string s1, .int .i64 n1] 31) w5.heap.size (Nat.lt_of_lt_of_le (World.lt_of_heap A7.out) h8.size)).trans ((h8.block w5.heap.size (World.lt_of_heap A7.out)).trans A7.out))
  have B8 := Lib.hid ((Below.heap_alloc w8 (Obj.cells #[.int .i64 k1, .string s1, .int .i64 n1] 31) w6.heap.size (Nat.lt_of_lt_of_le (World.lt_of_heap B7.out) h8.size)).trans ((h8.block w6.heap.size (World.lt_of_heap B7.out)).trans B7.out))
  have C8 := Lib.hid ((Below.heap_alloc w8 (Obj.cells #[.int .i64 k1, .string s1, .int .i64 n1] 31) w7.heap.size (Nat.lt_of_lt_of_le (World.lt_of_heap C7.out) h8.size)).trans ((h8.block w7.heap.size (World.lt_of_heap C7.out)).trans C7.out))
  have D8 := Lib.hid (heap_alloc_new w8 (Obj.cells #[.int .i64 k1, .string s1, .int .i64 n1] 31))
  clear h8 y0 y1 y2 y3 A7 B7 C7 N7 h1 h2
  obtain ⟨a0, a1, a2⟩ := box3 A8.out
  obtain ⟨b0, b1, b2⟩ := box3 B8.out
  obtain ⟨c0, c1, c2⟩ := box3 C8.out
  obtain ⟨d0, d1, d2⟩ := box3 D8.out
  go_wp2_with fail
  go_ret
  exact ⟨rfl, N8.out.below⟩
end Go.Proofs.Ytifjdfdjojkagaa
