/- The walk through the law EvalSums. -/
import Derived.Test.YtifjdfdjojkagaaEvalR4
namespace Go.Proofs.Ytifjdfdjojkagaa
open Go.RowKit Dg

/-- The term that the loop has built of the first i numbers. -/
def sumT (left : Bool) (z : Nat → Int) : Nat → T
  | 0 => .mk 2 0 noName 0 fun _ => .nil
  | i + 1 => .mk 4 0 ⟨#[43]⟩ 2 fun j => if (j == 0) = left then sumT left z i else .mk 2 (z i) noName 0 fun _ => .nil
def sumN (z : Nat → Int) : Nat → Int
  | 0 => 0
  | i + 1 => sumN z i + z i
/-- The same as it lies in memory: its rows lie in blocks behind g. -/
def CIn (w : World) (g : Nat) (left : Bool) (z : Nat → Int) : Nat → Value → Value → Value → Value → Prop
  | 0, v0, v1, v2, v3 => v0 = .int .i64 2 ∧ v1 = .int .i64 0 ∧ v2 = .string ⟨#[]⟩ ∧ v3 = .slice none 0 0
  | i + 1, v0, v1, v2, v3 => ∃ b u0 u1 u2 u3, v0 = .int .i64 4 ∧ v1 = .int .i64 0 ∧ v2 = .string ⟨#[43]⟩ ∧ v3 = .slice (some ⟨b, 0, none⟩) 2 2 ∧ g < b ∧ CIn w g left z i u0 u1 u2 u3 ∧
      w.heap[b]? = some (.cells (if left then #[u0, u1, u2, u3, .int .i64 2, .int .i64 (z i), .string ⟨#[]⟩, .slice none 0 0] else #[.int .i64 2, .int .i64 (z i), .string ⟨#[]⟩, .slice none 0 0, u0, u1, u2, u3]) 29 (0, 0))
/-- What lies behind block g stands. -/
def Past (g : Nat) (w w' : World) : Prop := ∀ b, g < b → b < w.heap.size → w'.heap[b]? = w.heap[b]?
theorem CIn.past {w w' : World} {g : Nat} {left : Bool} {z : Nat → Int} (h : Past g w w') : ∀ {i : Nat} {v0 v1 v2 v3 : Value}, CIn w g left z i v0 v1 v2 v3 → CIn w' g left z i v0 v1 v2 v3 := by
  intro i
  induction i with
  | zero => exact fun h => h
  | succ i ih =>
    rintro v0 v1 v2 v3 ⟨b, u0, u1, u2, u3, e0, e1, e2, e3, hb, hc, hw⟩
    exact ⟨b, u0, u1, u2, u3, e0, e1, e2, e3, hb, ih hc, (h b hb (World.lt_of_heap hw)).trans hw⟩
theorem CIn.tin {w : World} {g : Nat} {left : Bool} {z : Nat → Int} : ∀ {i : Nat} {v0 v1 v2 v3 : Value}, CIn w g left z i v0 v1 v2 v3 → TIn w w.heap.size (sumT left z i) (.agg #[v0, v1, v2, v3]) := by
  intro i
  induction i with
  | zero =>
    rintro v0 v1 v2 v3 ⟨rfl, rfl, rfl, rfl⟩
    exact ⟨none, 0, rfl, Nat.le_refl _, fun _ => rfl, fun h => absurd h (by decide)⟩
  | succ i ih =>
    rintro v0 v1 v2 v3 ⟨b, u0, u1, u2, u3, rfl, rfl, rfl, rfl, hb, hc, hw⟩
    have hr := fun (j : Nat) => cell_of_row _ _ j _ _ _ hw
    have hx : TIn w w.heap.size (.mk 2 (z i) noName 0 fun _ => .nil) (.agg #[.int .i64 2, .int .i64 (z i), .string ⟨#[]⟩, .slice none 0 0]) :=
      ⟨none, 0, rfl, Nat.le_refl _, fun _ => rfl, fun h => absurd h (by decide)⟩
    refine ⟨_, _, rfl, Nat.le_refl _, (fun h => by cases h), fun _ => ⟨b, 0, rfl, World.lt_of_heap hw, fun j hj => ?_⟩⟩
    cases left with
    | true =>
      rcases (by omega : j = 0 ∨ j = 1) with rfl | rfl
      · exact ⟨_, _, _, _, hr 0, hr 1, hr 2, hr 3, ih hc⟩
      · exact ⟨_, _, _, _, hr 4, hr 5, hr 6, hr 7, hx⟩
    | false =>
      rcases (by omega : j = 0 ∨ j = 1) with rfl | rfl
      · exact ⟨_, _, _, _, hr 0, hr 1, hr 2, hr 3, hx⟩
      · exact ⟨_, _, _, _, hr 4, hr 5, hr 6, hr 7, ih hc⟩
theorem sumN_small (z : Nat → Int) (n : Nat) (hz : ∀ i, i < n → -2147483648 ≤ z i ∧ z i ≤ 2147483647) : ∀ i, i ≤ n → -2147483648 * (i : Int) ≤ sumN z i ∧ sumN z i ≤ 2147483648 * (i : Int) := by
  intro i
  induction i with
  | zero => intro _; simp [sumN]
  | succ i ih =>
    intro h
    have := ih (by omega)
    have := hz i (by omega)
    simp only [sumN]
    omega
theorem sumT_val (left : Bool) (z : Nat → Int) (n : Nat) (hn : n ≤ 60) (hz : ∀ i, i < n → -2147483648 ≤ z i ∧ z i ≤ 2147483647) : ∀ i, i ≤ n → evT (sumT left z i) = .val (sumN z i) := by
  intro i
  induction i with
  | zero => intro _; simp [sumT, sumN, evT]
  | succ i ih =>
    intro h
    have h0 := ih (by omega)
    have h1 := sumN_small z n hz (i + 1) h
    have hx : evT (.mk 2 (z i) noName 0 fun _ => .nil) = .val (z i) := by simp [evT]
    have two : isTwo [43] = true := by decide
    have tl : (⟨#[43]⟩ : ByteArray).toList = [43] := by decide +kernel
    have fin : ∀ a b : Int, a + b = sumN z (i + 1) → ev2 ⟨#[43]⟩ (.val a) (.val b) = .val (sumN z (i + 1)) := by
      intro a b hab
      simp only [ev2, tl, num2, hab]
      simp only [beq_self_eq_true, if_true, fitV, fitE, ev]
      rw [if_pos (by omega), if_pos (by omega)]
    unfold sumT
    rw [evT, tl]
    simp only [two]
    cases left with
    | true =>
      simp [h0, hx]
      exact fin _ _ (by simp [sumN])
    | false =>
      simp [h0, hx]
      exact fin _ _ (by simp [sumN]; omega)
theorem sumT_inR (left : Bool) (z : Nat → Int) (n : Nat) (hz : ∀ i, i < n → -2147483648 ≤ z i ∧ z i ≤ 2147483647) : ∀ i, i ≤ n → (sumT left z i).inR ∧ (sumT left z i).atoms := by
  intro i
  induction i with
  | zero => intro _; exact ⟨⟨⟨by decide, by decide⟩, fun i h => absurd h (by omega)⟩, ⟨fun h => absurd h (by decide), fun i h => absurd h (by omega)⟩⟩
  | succ i ih =>
    intro h
    obtain ⟨h0, h1⟩ := ih (by omega)
    have := hz i (by omega)
    unfold sumT
    refine ⟨⟨⟨by decide, by decide⟩, fun j _ => ?_⟩, ⟨fun h => absurd h (by decide), fun j _ => ?_⟩⟩
    · dsimp only
      split
      · exact h0
      · exact ⟨⟨by omega, by omega⟩, fun i h => absurd h (by omega)⟩
    · dsimp only
      split
      · exact h1
      · exact ⟨fun h => absurd h (by decide), fun i h => absurd h (by omega)⟩
/-- A box of four cells, written anew. -/
theorem put4 {w : World} {g : Nat} {t : TypeId} {m : Nat × Nat} {u0 u1 u2 u3 : Value} (h : w.heap[g]? = some (.cells #[u0, u1, u2, u3] t m)) (a b c d : Value) {W : World}
    (hW : (((w.setCell ⟨g, 0, none⟩ a).setCell ⟨g, 1, none⟩ b).setCell ⟨g, 2, none⟩ c).setCell ⟨g, 3, none⟩ d = W) :
    W.heap[g]? = some (.cells #[a, b, c, d] t m) ∧ W.heap.size = w.heap.size ∧ (∀ k, k ≠ g → W.heap[k]? = w.heap[k]?) ∧ ∀ B w0, B ≤ g → Below B w0 w → Below B w0 W := by
  subst hW
  refine ⟨by simpa using Blk.set_ (Blk.set_ (Blk.set_ (Blk.set_ h 0 a) 1 b) 2 c) 3 d, by simp, fun k hk => ?_, fun B w0 hB hw => (((hw.setCell hB a).setCell hB b).setCell hB c).setCell hB d⟩
  rw [Below.heap_setCell _ _ _ k hk, Below.heap_setCell _ _ _ k hk, Below.heap_setCell _ _ _ k hk, Below.heap_setCell _ _ _ k hk]
theorem sums_step {w wr : World} {left : Bool} {z : Nat → Int} {i : Nat} {u0 u1 u2 u3 a b c d : Value} (W : World) (o : Obj)
    (hc : CIn wr w.heap.size left z i u0 u1 u2 u3) (h0 : a = .int .i64 4) (h1 : b = .int .i64 0) (h2 : c = .string ⟨#[43]⟩) (row : Nat) (h3 : d = .slice (some ⟨row, 0, none⟩) 2 2)
    (hW : Below w.heap.size w W) (hx' : W.heap[w.heap.size]? = some (.cells #[a, b, c, d] 29 (0, 0))) (hp : Past w.heap.size wr W) (hr : W.heap[row]? = some o) (hrow : w.heap.size < row)
    (ho : o = .cells (if left then #[u0, u1, u2, u3, .int .i64 2, .int .i64 (z i), .string ⟨#[]⟩, .slice none 0 0] else #[.int .i64 2, .int .i64 (z i), .string ⟨#[]⟩, .slice none 0 0, u0, u1, u2, u3]) 29 (0, 0)) :
    Below w.heap.size w W ∧ ∃ u0 u1 u2 u3, W.heap[w.heap.size]? = some (.cells #[u0, u1, u2, u3] 29 (0, 0)) ∧ CIn W w.heap.size left z (i + 1) u0 u1 u2 u3 := by
  subst ho
  exact ⟨hW, _, _, _, _, hx', row, u0, u1, u2, u3, h0, h1, h2, h3, hrow, hc.past hp, hr⟩
theorem past_alloc {g : Nat} {w w1 : World} (h : Past g w w1) (hs : w.heap.size ≤ w1.heap.size) (o : Obj) : Past g w (w1.alloc o) := fun b h0 h1 => (Below.heap_alloc _ _ _ (by omega)).trans (h b h0 h1)
set_option maxRecDepth 100000 in
set_option maxHeartbeats 4000000 in
theorem sums_any (left : Bool) (A : Option Addr) (len cap : Nat) (z : Nat → Int) (w : World) (hcap : len ≤ cap)
    (hz : ∀ i, i < len → -2147483648 ≤ z i ∧ z i ≤ 2147483647)
    (hrow : 0 < len → ∃ b off, A = some ⟨b, off, none⟩ ∧ b < w.heap.size ∧ ∀ i, i < len → w.cell? ⟨b, off + i, none⟩ = some (.int .i32 (z i))) :
    Calls Try.prog 4 #[.slice A len cap, .bool left] w fun e w' => e = .returned (.bool true) ∧ Below w.heap.size w w' := by
  by_cases hlen : 60 < len
  · have : (60 : Int) < (len : Int) := by omega
    go_enter Try.func4, Try.ntmps4
    go_wp2
    go_ret
    exact ⟨rfl, Below.refl _ _⟩
  have hl60 : ¬ (60 : Int) < (len : Int) := by omega
  go_enter Try.func4, Try.ntmps4
  have HZ := Lib.hid hz
  have HROW := Lib.hid hrow
  clear hz hrow
  go_wp2
  go_loopw [5, 7] (fun nv iv wr => ∃ i : Nat, i ≤ len ∧ iv = .int .i64 (i : Int) ∧ nv = .int .i64 (sumN z i) ∧ Below w.heap.size w wr ∧
    ∃ u0 u1 u2 u3, wr.heap[w.heap.size]? = some (.cells #[u0, u1, u2, u3] 29 (0, 0)) ∧ CIn wr w.heap.size left z i u0 u1 u2 u3) (fun _ iv _ => len - (intOf iv).toNat)
  case atStart =>
    exact ⟨0, by omega, rfl, rfl, (Below.refl _ _).alloc (Nat.le_refl _) _, _, _, _, _, heap_alloc_new _ _, rfl, rfl, rfl, rfl⟩
  case round =>
    obtain ⟨i, hi, rfl, rfl, hbl, u0, u1, u2, u3, hbox, hc⟩ := hrel
    obtain ⟨y0, y1, y2, y3⟩ := box4 hbox
    have yf : ∀ j, wr.frozen? ⟨w.heap.size, j, none⟩ = false := fun j => by simp [World.frozen?, hbox]
    have HB := Lib.hid hbl
    have HC := Lib.hid hc
    have HX := Lib.hid hbox
    have hgs := World.lt_of_heap hbox
    have hs := sumN_small z len HZ.out i hi
    clear hbl hc hbox
    by_cases hlt : i < len
    · obtain ⟨b, off, rfl, hbb, hcell⟩ := HROW.out (by omega)
      have hel := (HB.out.cell (p := ⟨b, off + i, none⟩) hbb).trans (hcell i hlt)
      clear hcell
      have hzi := HZ.out i hlt
      have hs' := sumN_small z len HZ.out (i + 1) hlt
      have hlt' : (i : Int) < (len : Int) := by omega
      have hbw : b < wr.heap.size := by omega
      have hgs1 : w.heap.size < wr.heap.size + 1 := by omega
      have hbw1 : b < wr.heap.size + 1 := by omega
      cases left with
      | true =>
        go_wp2
        go_roundw
        case rel =>
          obtain ⟨p0, p1, p2, p3⟩ := put4 HX.out (.int .i64 4) (.int .i64 0) (.string ⟨#[43]⟩) (.slice (some ⟨wr.heap.size + 1, 0, none⟩) 2 2) rfl
          refine ⟨i + 1, by omega, by go_num, by go_num, ?_⟩
          refine sums_step _ _ HC.out rfl rfl rfl (wr.heap.size + 1) rfl ?_ ?_ ?_ ?_ (by omega) rfl
          · exact ((p3 _ _ (Nat.le_refl _) HB.out).alloc (by omega) _).alloc (by simp; omega) _
          · exact (Below.heap_alloc _ _ _ (by simp; omega)).trans ((Below.heap_alloc _ _ _ (by omega)).trans p0)
          · exact past_alloc (past_alloc (fun k hk _ => p2 k (by omega)) (by omega) _) (by simp) _
          · exact (congrArg _ (by simp)).trans (heap_alloc_new _ _)
        case measure => simp [intOf]; omega
      | false =>
        go_wp2
        go_roundw
        case rel =>
          obtain ⟨p0, p1, p2, p3⟩ := put4 HX.out (.int .i64 4) (.int .i64 0) (.string ⟨#[43]⟩) (.slice (some ⟨wr.heap.size + 1 + 1, 0, none⟩) 2 2) rfl
          refine ⟨i + 1, by omega, by go_num, by go_num, ?_⟩
          refine sums_step _ _ HC.out rfl rfl rfl (wr.heap.size + 1 + 1) rfl ?_ ?_ ?_ ?_ (by omega) rfl
          · exact (((p3 _ _ (Nat.le_refl _) HB.out).alloc (by omega) _).alloc (by simp; omega) _).alloc (by simp; omega) _
          · exact (Below.heap_alloc _ _ _ (by simp; omega)).trans ((Below.heap_alloc _ _ _ (by simp; omega)).trans ((Below.heap_alloc _ _ _ (by omega)).trans p0))
          · exact past_alloc (past_alloc (past_alloc (fun k hk _ => p2 k (by omega)) (by omega) _) (by simp) _) (by simp; omega) _
          · exact (congrArg _ (by simp)).trans (heap_alloc_new _ _)
        case measure => simp [intOf]; omega
    · obtain rfl : i = len := by omega
      have hv := HC.out.tin
      have hval := sumT_val left z i (by omega) HZ.out i (Nat.le_refl _)
      obtain ⟨hr, hat⟩ := sumT_inR left z i HZ.out i (Nat.le_refl _)
      have ht := Lib.hid hv
      clear hv
      go_wp2_with fail
      refine (eval_any _ _ _ ht.out hr).mono ?_
      rintro e w5 ⟨rfl, h5⟩
      rw [hval]
      simp only [evPair]
      obtain ⟨q0, q1, q2, q3⟩ := box4 ((h5.block _ hgs).trans HX.out)
      have hg5 : w.heap.size < w5.heap.size := Nat.lt_of_lt_of_le hgs h5.size
      have B5 := Lib.hid (HB.out.trans (h5.mono (by omega)))
      have t5 := Lib.hid (show TIn w5 w5.heap.size (sumT left z i) (.agg #[u0, u1, u2, u3]) from (ht.out.below h5).more h5.size)
      clear h5 y0 y1 y2 y3 yf
      go_wp2_with fail
      refine (refEval_any _ hr hat _ _ ((t5.out.below (B := w5.heap.size) ((Below.refl _ _).alloc (Nat.le_refl _) _)).more (by simp))).mono ?_
      rintro e w6 ⟨rfl, h6⟩
      rw [hval]
      simp only [evPair]
      have c6 := Lib.hid ((h6.block w5.heap.size (by simp)).trans (heap_alloc_new w5 (Obj.cells #[Value.int IntKind.i64 0, Value.string noName, Value.int IntKind.i64 0] 31)))
      have B6 := Lib.hid ((B5.out.alloc (by omega) (Obj.cells #[Value.int IntKind.i64 0, Value.string noName, Value.int IntKind.i64 0] 31)).trans (h6.mono (by simp; omega)))
      have l6 : w5.heap.size < w6.heap.size := World.lt_of_heap c6.out
      clear h6 q0 q1 q2 q3
      obtain ⟨z0, z1, z2⟩ := box3 c6.out
      go_wp2_with fail
      go_ret
      exact ⟨rfl, B6.out.alloc (by omega) _⟩
end Go.Proofs.Ytifjdfdjojkagaa
