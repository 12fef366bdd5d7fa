/- The walk through eval.Eval: the deferred closure that recovers. -/
import Derived.Test.YtifjdfdjojkagaaEval5
import Derived.Tactics2
import Derived.Defers
import Derived.Recover
import Derived.Laws.Pointers
namespace Go.Proofs.Ytifjdfdjojkagaa
open Go.RowKit

def evPair : Ev → Ending
  | .val n => .returned (.tuple #[.int .i64 n, .agg #[.int .i64 0, .string noName, .int .i64 0]])
  | .flt k s n => .returned (.tuple #[.int .i64 0, .agg #[.int .i64 k, .string s, .int .i64 n]])

theorem catch_idle (p q : Addr) (w : World) :
    CallsD Try.prog 16 #[.pointer (some p), .pointer (some q)] .returning w fun e u' w' => e = .returned (.tuple #[]) ∧ u' = .returning ∧ w' = w := by
  refine callsD_of_wpS Try.func16 rfl fun c₀ cs hu => ?_
  apply wpS_seq
  apply wpS_region
  simp [wpOpsS, go_sem, recoverD, hu, Try.ntmps16, Exit.thenS]
  apply wpS_seq
  apply wpS_region
  simp [wpOpsS, go_sem, recoverD, hu, Exit.thenS]
  refine wpS_cond (t := false) (by simp [Act.eval, Array.replicate]) ?_
  simp only [Bool.false_eq_true, if_false]
  refine wpS_of_wp (wp_skip ?_)
  cases c₀
  simp_all [bodyPostS, results, Try.results16]
theorem ta_thrown (v : Value) (W : World) : Sem.run Try.prog (Instr.typeAssert (.iface 43 v) 20 43 false) W = .ok v W := by kernel_rfl
theorem fld_thrown (k n : Int) (s : ByteArray) (W : World) : (Instr.field 43 (.agg #[.int .i64 k, .string s, .int .i64 n]) 0).run Try.prog W = .ok (.agg #[.int .i64 k, .string s, .int .i64 n]) W := by kernel_rfl
theorem catch_panicking (B : Nat) (x : Value) (y0 y1 y2 : Value) (k : Int) (s : ByteArray) (n : Int) (older : List PanicEntry) (w : World)
    (hp : w.cell? ⟨B, 0, none⟩ = some x) (fp : w.frozen? ⟨B, 0, none⟩ = false) (hq0 : w.cell? ⟨B + 1, 0, none⟩ = some y0) (hq1 : w.cell? ⟨B + 1, 1, none⟩ = some y1) (hq2 : w.cell? ⟨B + 1, 2, none⟩ = some y2)
    (f0 : w.frozen? ⟨B + 1, 0, none⟩ = false) (f1 : w.frozen? ⟨B + 1, 1, none⟩ = false) (f2 : w.frozen? ⟨B + 1, 2, none⟩ = false) :
    CallsD Try.prog 16 #[.pointer (some ⟨B, 0, none⟩), .pointer (some ⟨B + 1, 0, none⟩)] (.panicking ({ v := .iface 43 (.agg #[.int .i64 k, .string s, .int .i64 n]), recovered := false } :: older)) w fun e u' w' =>
      e = .returned (.tuple #[]) ∧ u' = .panicking ({ v := .iface 43 (.agg #[.int .i64 k, .string s, .int .i64 n]), recovered := true } :: older) ∧
      Below B w w' ∧ w'.cell? ⟨B, 0, none⟩ = some (.int .i64 0) ∧ w'.cell? ⟨B + 1, 0, none⟩ = some (.int .i64 k) ∧ w'.cell? ⟨B + 1, 1, none⟩ = some (.string s) ∧ w'.cell? ⟨B + 1, 2, none⟩ = some (.int .i64 n) := by
  refine callsD_of_wpS Try.func16 rfl fun c₀ cs hu => ?_
  apply wpS_seq
  apply wpS_region
  simp [wpOpsS, go_sem, recoverD, hu, Try.ntmps16, Exit.thenS]
  apply wpS_seq
  apply wpS_region
  simp [wpOpsS, go_sem, recoverD, Exit.thenS]
  refine wpS_cond (t := true) (by simp [Act.eval, Array.replicate]) ?_
  simp only [if_true]
  refine wpS_of_wp ?_
  change Code.wp _ _ _ { tmps := #[.pointer (some ⟨B, 0, none⟩), .pointer (some ⟨B + 1, 0, none⟩), (.iface 43 (.agg #[.int .i64 k, .string s, .int .i64 n])), (.iface 43 (.agg #[.int .i64 k, .string s, .int .i64 n])), (.iface 43 (.agg #[.int .i64 k, .string s, .int .i64 n])), .bool true, undef, undef, undef], defers := [] } w
  have hta := ta_thrown (.agg #[.int .i64 k, .string s, .int .i64 n])
  have hfl := fld_thrown k n s
  go_region
  all_goals
    simp [bodyPostS, results, Try.results16]
    refine ⟨(((((Below.refl B w).setCell (by simp) _).setCell (by simp) _).setCell (by simp) _).setCell (by simp) _).drew, ?_, ?_, ?_, ?_⟩
    all_goals simp [World.cell?_setCell_other, World.cell?_setCell_same, *]


theorem heap_mid2 (w : World) (o1 o2 o3 : Obj) : (((w.alloc o1).alloc o2).alloc o3).heap[w.heap.size + 1 + 1]? = some o3 := by
  have e : w.heap.size + 1 + 1 = ((w.alloc o1).alloc o2).heap.size := by simp
  rw [e]; exact heap_alloc_new _ _
theorem heap_mid1 (w : World) (o1 o2 o3 : Obj) : (((w.alloc o1).alloc o2).alloc o3).heap[w.heap.size + 1]? = some o2 := by
  have e : w.heap.size + 1 = (w.alloc o1).heap.size := by simp
  rw [((Below.refl ((w.alloc o1).alloc o2).heap.size _).alloc (Nat.le_refl _) o3).block _ (by simp), e]; exact heap_alloc_new _ _
theorem box3 {w : World} {g : Nat} {t : TypeId} {f : Nat × Nat} {a b c : Value} (h : w.heap[g]? = some (.cells #[a, b, c] t f)) :
    w.cell? ⟨g, 0, none⟩ = some a ∧ w.cell? ⟨g, 1, none⟩ = some b ∧ w.cell? ⟨g, 2, none⟩ = some c :=
  ⟨cell_of_row w g 0 _ _ _ h, cell_of_row w g 1 _ _ _ h, cell_of_row w g 2 _ _ _ h⟩

set_option maxRecDepth 100000 in
set_option maxHeartbeats 2000000 in
theorem eval_val (t : T) (v : Value) (x : Int) (w : World) (hv : TIn w w.heap.size t v) (h : ValR t (.val x)) :
    Calls Try.prog 10 #[v] w fun e w' => e = evPair (.val x) ∧ Below w.heap.size w w' := by
  have hmf : ∀ (fn : Fn) (first cap : Array Value) (w : World), (Instr.makeFunc fn first cap).run Try.prog w = .ok (.func fn first cap) w := fun _ _ _ _ => rfl
  obtain _ | ⟨k, n, s, m, a⟩ := t
  · exact hv.elim
  obtain ⟨A, c, rfl, hT⟩ := hv.open_
  go_enter_defers Try.func10, Try.ntmps10
  go_wp2_with fail
  have hb1 := ((((Below.refl w.heap.size w).alloc (Nat.le_refl _) (Obj.cells #[.int .i64 k, .int .i64 n, .string s, .slice A m c] 29)).alloc (by simp) (Obj.cells #[.int .i64 0] 3)).alloc (by simp; omega) (Obj.cells #[.int .i64 0, .string ⟨#[]⟩, .int .i64 0] 31))
  have HB1 := Lib.hid hb1
  refine (h _ _ ((hv.below hb1).more (by simp; omega))).mono ?_
  clear hb1 hv hT h
  rintro e w3 ⟨rfl, h3⟩
  have H3 := Lib.hid (HB1.out.trans (h3.mono (by simp; omega)))
  have X1 := Lib.hid ((h3.block (w.heap.size + 1) (by simp)).trans (heap_mid1 w _ _ _))
  have X2 := Lib.hid ((h3.block (w.heap.size + 1 + 1) (by simp)).trans (heap_mid2 w _ _ _))
  clear h3
  have n0 := cell_of_row _ _ 0 _ _ _ X1.out
  obtain ⟨q0, q1, q2⟩ := box3 X2.out
  have fn0 : w3.frozen? ⟨w.heap.size + 1, 0, none⟩ = false := by simp [World.frozen?, X1.out]
  have f0 : w3.frozen? ⟨w.heap.size + 1 + 1, 0, none⟩ = false := by simp [World.frozen?, X2.out]
  have f1 : w3.frozen? ⟨w.heap.size + 1 + 1, 1, none⟩ = false := by simp [World.frozen?, X2.out]
  have f2 : w3.frozen? ⟨w.heap.size + 1 + 1, 2, none⟩ = false := by simp [World.frozen?, X2.out]
  simp only [evEnd]
  go_wp2_with fail
  refine leaves_cons (f := 16) (args := #[.pointer (some ⟨w.heap.size + 1, 0, none⟩), .pointer (some ⟨w.heap.size + 1 + 1, 0, none⟩)]) (by simp) (by simp [go_sem]) ?_
  refine (catch_idle _ _ _).mono ?_
  rintro e u' w'' ⟨rfl, rfl, rfl⟩
  simp at n0
  have HE := Lib.hid ((((H3.out.setCell (p := ⟨w.heap.size + 1, 0, none⟩) (by simp) (.int .i64 x)).setCell (p := ⟨w.heap.size + 1 + 1, 0, none⟩) (by simp; omega) (.int .i64 0)).setCell (p := ⟨w.heap.size + 1 + 1, 1, none⟩) (by simp; omega) (.string ⟨#[]⟩)).setCell (p := ⟨w.heap.size + 1 + 1, 2, none⟩) (by simp; omega) (.int .i64 0))
  simp [Leaves, settle, results, Try.results10, go_sem, World.cell?_setCell_other, World.cell?_setCell_same, n0, q0, q1, q2]
  exact ⟨rfl, HE.out⟩
set_option maxRecDepth 100000 in
set_option maxHeartbeats 2000000 in
theorem eval_flt (t : T) (v : Value) (fk fn : Int) (fs : ByteArray) (w : World) (hv : TIn w w.heap.size t v) (h : ValR t (.flt fk fs fn)) :
    Calls Try.prog 10 #[v] w fun e w' => e = evPair (.flt fk fs fn) ∧ Below w.heap.size w w' := by
  have hmf : ∀ (fn : Fn) (first cap : Array Value) (w : World), (Instr.makeFunc fn first cap).run Try.prog w = .ok (.func fn first cap) w := fun _ _ _ _ => rfl
  obtain _ | ⟨k, n, s, m, a⟩ := t
  · exact hv.elim
  obtain ⟨A, c, rfl, hT⟩ := hv.open_
  go_enter_defers Try.func10, Try.ntmps10
  go_wp2_with fail
  have hb1 := ((((Below.refl w.heap.size w).alloc (Nat.le_refl _) (Obj.cells #[.int .i64 k, .int .i64 n, .string s, .slice A m c] 29)).alloc (by simp) (Obj.cells #[.int .i64 0] 3)).alloc (by simp; omega) (Obj.cells #[.int .i64 0, .string ⟨#[]⟩, .int .i64 0] 31))
  have HB1 := Lib.hid hb1
  refine (h _ _ ((hv.below hb1).more (by simp; omega))).mono ?_
  clear hb1 hv hT h
  rintro e w3 ⟨rfl, h3⟩
  have H3 := Lib.hid (HB1.out.trans (h3.mono (by simp; omega)))
  have X1 := Lib.hid ((h3.block (w.heap.size + 1) (by simp)).trans (heap_mid1 w _ _ _))
  have X2 := Lib.hid ((h3.block (w.heap.size + 1 + 1) (by simp)).trans (heap_mid2 w _ _ _))
  clear h3
  have n0 := cell_of_row _ _ 0 _ _ _ X1.out
  obtain ⟨q0, q1, q2⟩ := box3 X2.out
  have fn0 : w3.frozen? ⟨w.heap.size + 1, 0, none⟩ = false := by simp [World.frozen?, X1.out]
  have f0 : w3.frozen? ⟨w.heap.size + 1 + 1, 0, none⟩ = false := by simp [World.frozen?, X2.out]
  have f1 : w3.frozen? ⟨w.heap.size + 1 + 1, 1, none⟩ = false := by simp [World.frozen?, X2.out]
  have f2 : w3.frozen? ⟨w.heap.size + 1 + 1, 2, none⟩ = false := by simp [World.frozen?, X2.out]
  simp only [evEnd]
  go_wp2_with fail
  refine leaves_cons (f := 16) (args := #[.pointer (some ⟨w.heap.size + 1, 0, none⟩), .pointer (some ⟨w.heap.size + 1 + 1, 0, none⟩)]) (by simp) (by simp [go_sem]) ?_
  simp at n0
  refine (catch_panicking (w.heap.size + 1) _ _ _ _ fk fs fn [] _ n0 fn0 q0 q1 q2 f0 f1 f2).mono ?_
  rintro e u' w'' ⟨rfl, rfl, h4, p0, p1, p2, p3⟩
  have HE := Lib.hid (H3.out.trans (h4.mono (by omega)))
  simp [Leaves, settle, results, Try.results10, go_sem, p0, p1, p2, p3]
  exact ⟨rfl, HE.out⟩

theorem eval_any (t : T) (v : Value) (w : World) (hv : TIn w w.heap.size t v) (hr : t.inR) :
    Calls Try.prog 10 #[v] w fun e w' => e = evPair (evT t) ∧ Below w.heap.size w w' := by
  have h := (value_any t hr).at_ rfl
  cases he : evT t with
  | val x => rw [he] at h; exact eval_val t v x w hv h
  | flt fk fs fn => rw [he] at h; exact eval_flt t v fk fn fs w hv h
end Go.Proofs.Ytifjdfdjojkagaa
