/- The walk through coneyref01.of. -/
import Derived.Test.YtifjdfdjojkagaaRef1
import Derived.Test.YtifjdfdjojkagaaPush
namespace Go.Proofs.Ytifjdfdjojkagaa
open Go.RowKit Dg

theorem Try.info_int : (Try.prog.info? 3).map (fun i => (i.zero, i.size, i.bytes)) = some (some (.int .i64 0), 1, 8) := by kernel_rfl
theorem elInt : El Try.prog 67 3 (.int .i64 0) 1 8 := by
  obtain ⟨i0, hi, hz0, hz1, hz2⟩ := info_parts Try.info_int
  exact ⟨Try.underlying67, ⟨i0, hi, hz0, hz1, hz2⟩, rfl, by omega⟩

/-- What the loop of 'of' has gathered. -/
structure OfRel (B : Nat) (W : World) (X : Nat) (s o : Value) (wr : World) (N k : Nat) (l : List Nat) : Prop where
  hs : s = .int .u64 (N : Int)
  own : wr.ownsRow B 3 1 o k (cellsOf l)
  ok : Ok l
  len : l.length = k
  top : N ≤ 9223372036854775808
  sum : val l + 32768 ^ k * N = X
  norm : N = 0 → Norm l
  below : Below B W wr

theorem norm_snoc {l : List Nat} {d : Nat} (h : d ≠ 0) : Norm (l ++ [d]) := by
  intro x hx
  simp only [List.getLast?_append, List.getLast?_singleton, Option.some_or, Option.some.injEq] at hx
  omega
theorem OfRel.step {B : Nat} {W : World} {X : Nat} {s o : Value} {wr w1 : World} {N k : Nat} {l : List Nat} {o' : Value} (h : OfRel B W X s o wr N k l) (hN : 0 < N)
    (hown : w1.ownsRow B 3 1 o' (k + 1) (cellsOf l ++ [.int .i64 ((N : Int) % 32768)])) (hb : Below B W w1) : OfRel B W X (.int .u64 ((N : Int) / 32768)) o' w1 (N / 32768) (k + 1) (l ++ [N % 32768]) where
  hs := by rw [Int.natCast_ediv]; rfl
  own := by rw [cellsOf_snoc, Int.natCast_emod]; exact hown
  ok := h.ok.append (Ok.cons (Nat.mod_lt _ (by omega)) Ok.nil)
  len := by simp [h.len]
  top := by have := h.top; omega
  sum := by
    have := h.sum
    rw [val_snoc, h.len, Nat.pow_succ, Nat.mul_assoc, Nat.add_assoc, ← Nat.mul_add]
    rw [Nat.mod_add_div]
    exact this
  norm := fun h0 => norm_snoc (by omega)
  below := hb
theorem OfRel.small {B : Nat} {W : World} {X : Nat} {s o : Value} {wr : World} {N k : Nat} {l : List Nat} (h : OfRel B W X s o wr N k l) (hN : 0 < N) (hX : X ≤ 9223372036854775808) : k ≤ 4 := by
  rcases Nat.lt_or_ge k 5 with h5 | h5
  · omega
  · exfalso
    have h1 : 32768 ^ 5 ≤ 32768 ^ k := Nat.pow_le_pow_right (by omega) h5
    have h2 := h.sum
    have h3 : 32768 ^ k * 1 ≤ 32768 ^ k * N := Nat.mul_le_mul_left _ hN
    have h4 : 32768 ^ 5 = 37778931862957161709568 := by decide
    omega

set_option maxHeartbeats 1000000 in
theorem of_any (a : Int) (w : World) (ha : -9223372036854775808 ≤ a) (ha' : a ≤ 9223372036854775807) :
    Calls Try.prog 49 #[.int .i64 a] w fun e w' => (∃ A n c, n ≤ 5 ∧ e = .returned (.agg #[.bool (decide (a < 0)), .slice A n c]) ∧ Num w' w'.heap.size A n c a.natAbs) ∧ Below w.heap.size w w' := by
  have hX : a.natAbs ≤ 9223372036854775808 := by omega
  by_cases hs : a < 0
  all_goals
    go_enter Try.func49, Try.ntmps49
    go_wp2
    go_loopw [3, 4] (fun s o wr => ∃ N k l, OfRel (w.heap.size + 1) ((w.alloc (Obj.cells #[Value.bool false, Value.slice none 0 0] 69)).alloc (Obj.cells #[] 3)) a.natAbs s o wr N k l) (fun s _ _ => (intOf s).toNat)
    case atStart =>
      have hg : ((w.alloc (Obj.cells #[Value.bool false, Value.slice none 0 0] 69)).alloc (Obj.cells #[] 3)).heap[w.heap.size + 1]? = some (Obj.cells #[] 3 (0, 0)) := by
        have := heap_alloc_new (w.alloc (Obj.cells #[Value.bool false, Value.slice none 0 0] 69)) (Obj.cells #[] 3)
        simpa using this
      exact ⟨a.natAbs, 0, [], ⟨vint (by omega), ownsRow_empty _ _ _ _ hg, Ok.nil, rfl, hX, by simp [val], fun _ => by intro d hd; simp at hd, Below.refl _ _⟩⟩
    case round =>
      obtain ⟨N, k, l, hr⟩ := hrel
      obtain rfl := hr.hs
      have htop := hr.top
      by_cases h0 : 0 < N
      · have hk4 := hr.small h0 hX
        have hown := Lib.hid hr.own
        have hsz := hr.below.size
        simp at hsz
        go_wp2_with (at_builtin; go_must (refine wpList_push _ rfl _ _ _ rfl elInt (w.heap.size + 1) _ _ _ rfl (hown.out.alloc _) _ _ (.int .i64 ((N : Int) % 32768)) rfl (by simp [go_sem]) rfl (by omega) (by unfold maxLen; omega) (by simp; omega) ?_); intro v1 w1 hown1 hb1)
        have R := hr.step h0 hown1 ((hr.below.alloc (by omega) _).trans hb1)
        clear hown1 hb1 hown
        go_wp2
        go_roundw
        case rel => exact ⟨_, _, _, R⟩
        case measure => simp [intOf]; omega
      · have hc0 : wr.cell? ⟨w.heap.size, 0, none⟩ = some (.bool false) := (hr.below.cell (p := ⟨w.heap.size, 0, none⟩) (by simp)).trans (by simp [go_sem])
        have hc1 : wr.cell? ⟨w.heap.size, 1, none⟩ = some (.slice none 0 0) := (hr.below.cell (p := ⟨w.heap.size, 1, none⟩) (by simp)).trans (by simp [go_sem])
        have hf0 : wr.frozen? ⟨w.heap.size, 0, none⟩ = false := (hr.below.frozen (p := ⟨w.heap.size, 0, none⟩) (by simp)).trans (by simp [go_sem])
        have hf1 : wr.frozen? ⟨w.heap.size, 1, none⟩ = false := (hr.below.frozen (p := ⟨w.heap.size, 1, none⟩) (by simp)).trans (by simp [go_sem])
        obtain ⟨A, c, rfl, hd⟩ := Dig.of_own hr.own hr.ok
        have hk5 : k ≤ 5 := by
          refine (show Num wr wr.heap.size A k c a.natAbs from ?_).short (by omega)
          have hN : N = 0 := by omega
          exact ⟨l, hd, hr.norm hN, by have := hr.sum; rw [hN, Nat.mul_zero] at this; omega⟩
        have hX2 : val l = a.natAbs := by
          have hN : N = 0 := by omega
          have := hr.sum
          rw [hN, Nat.mul_zero] at this
          omega
        have hNl := hr.norm (by omega)
        have hown := Lib.hid hr.own
        have hbel := Lib.hid hr.below
        have hok := Lib.hid hr.ok
        have HX2 := Lib.hid hX2
        clear hX2 hr hd
        go_wp2
        refine bodyPost_ret (v := .agg #[.bool (decide (a < 0)), .slice A k c]) (by simp [results, Try.results49, go_sem, hs, hc0, hc1]) rfl ⟨⟨A, k, c, hk5, rfl, l, ?_, hNl, HX2.out⟩, ?_⟩
        · exact Dig.of_slice (ownsRow_setCell_below (ownsRow_setCell_below hown.out (by simp) _) (by simp) _) hok.out
        · refine Below.setCell (Below.setCell ?_ (by simp) _) (by simp) _
          exact (((Below.refl _ _).alloc (Nat.le_refl _) _).alloc (by simp) _).trans (hbel.out.mono (by omega))
end Go.Proofs.Ytifjdfdjojkagaa
