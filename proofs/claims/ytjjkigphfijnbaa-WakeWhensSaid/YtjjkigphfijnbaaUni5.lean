/- The walks through unify.occurs, unify.New, unify.Bound. -/
import Derived.Test.YtjjkigphfijnbaaUni4
import Derived.Deep.DeepCutAuto
namespace Go.Proofs.Ytjjkigphfijnbaa
open Go.RowKit

theorem hasV_inr {t : T} (h : t.ok) : ∀ v, t.hasV v → 0 ≤ v ∧ v < 1000 := by
  induction t with
  | nil => exact fun _ h => h.elim
  | mk k n s m a ih =>
    rintro v (⟨h1, rfl⟩ | ⟨_, i, hi, h2⟩)
    · have := h.var h1; exact ⟨this.1, this.2.1⟩
    · exact ih i (h.arg hi) v h2
set_option maxRecDepth 100000 in
set_option maxHeartbeats 4000000 in
theorem occurs_any {w : World} {eb mb N : Nat} {L : Bs} (h : EnvP w eb mb N L) {t : T} {v : Value} (hv : TP w (fun _ => True) t v) (ht : t.ok) (n : Int) :
    Calls Try.prog 53 #[.pointer (some ⟨eb, 0, none⟩), .int .i64 n, v] w fun e w' => (∃ b, e = .returned (.bool b) ∧ (b = true ↔ Reach L n t)) ∧ Below w.heap.size w w' := by
  obtain ⟨k, nn, s, A, m, c, rfl⟩ := hv.agg
  have H := Lib.hid h
  have HV := Lib.hid hv
  obtain ⟨hle, hlm⟩ := h.lt
  clear h hv
  go_enter Try.func53, Try.ntmps53
  have MK : ∀ W : World, (Instr.makeMap 110 none).run Try.prog W = .ok (.map (some W.heap.size)) (W.alloc (.map #[] 0)) := fun W => run_makeMap _ W
  obtain ⟨W3, hW3⟩ : ∃ W3, W3 = ((w.alloc (Obj.cells #[.pointer (some ⟨eb, 0, none⟩)] 24)).alloc (Obj.cells #[.int .i64 n] 3)).alloc (Obj.cells #[.int .i64 k, .int .i64 nn, .string s, .slice A m c] 34) := ⟨_, rfl⟩
  have z3 : W3.heap.size = w.heap.size + 1 + 1 + 1 := by rw [hW3]; simp
  have B3 : Below w.heap.size w W3 := by rw [hW3]; exact (((Below.refl _ _).alloc (Nat.le_refl _) _).alloc (by simp) _).alloc (by simp; omega) _
  have g0 : W3.heap[w.heap.size]? = some (.cells #[.pointer (some ⟨eb, 0, none⟩)] 24 (0, 0)) := by rw [hW3]; exact (Below.heap_alloc _ _ _ (by simp; omega)).trans ((Below.heap_alloc _ _ _ (by simp)).trans (heap_alloc_new _ _))
  have g1 : W3.heap[w.heap.size + 1]? = some (.cells #[.int .i64 n] 3 (0, 0)) := by rw [hW3]; exact (Below.heap_alloc _ _ _ (by simp)).trans ((congrArg _ (by simp)).trans (heap_alloc_new _ _))
  have g2 : W3.heap[w.heap.size + 1 + 1]? = some (.cells #[.int .i64 k, .int .i64 nn, .string s, .slice A m c] 34 (0, 0)) := by rw [hW3]; exact (congrArg _ (by simp)).trans (heap_alloc_new _ _)
  go_upto_region 2 with (fail)
  rw [← hW3]
  obtain ⟨W5, hW5⟩ : ∃ W5, W5 = (W3.alloc (Obj.map #[] 0)).alloc (Obj.cells #[.map (some (w.heap.size + 1 + 1 + 1))] 110) := ⟨_, rfl⟩
  rw [← hW5]
  have z5 : W5.heap.size = w.heap.size + 1 + 1 + 1 + 1 + 1 := by rw [hW5]; simp [z3]
  have B5 : Below W3.heap.size W3 W5 := by rw [hW5]; exact ((Below.refl _ _).alloc (Nat.le_refl _) _).alloc (by simp) _
  have g3 : W5.heap[w.heap.size + 1 + 1 + 1 + 1]? = some (.cells #[.map (some (w.heap.size + 1 + 1 + 1))] 110 (0, 0)) := by rw [hW5]; exact (congrArg _ (by simp [z3])).trans (heap_alloc_new _ _)
  have gm : IM W5 (w.heap.size + 1 + 1 + 1) 0 (fun _ => none) := by
    rw [hW5, ← z3]
    exact (IM.made W3).keep (Below.heap_alloc _ _ _ (by simp))
  have h0 := Lib.hid ((B5.block _ (by omega)).trans g0)
  have h1 := Lib.hid ((B5.block _ (by omega)).trans g1)
  have h2 := Lib.hid ((B5.block _ (by omega)).trans g2)
  have h3 := Lib.hid g3
  have hm := Lib.hid gm
  have HB5 := Lib.hid (B3.trans (B5.mono (by omega)))
  obtain ⟨t0, t1, t2, t3⟩ := box4 ((B5.block _ (by omega)).trans g2)
  have ht5 : w.heap.size + 1 + 1 < W5.heap.size := by omega
  have Z5 := Lib.hid z5
  clear B3 g0 g1 g2 g3 gm B5 z3 z5 hW3 hW5
  have SF : ∀ (a : Addr) (cs : Array Value) (m : Mode) (W : World), (store a (.func (.func 77) #[] cs) m).run Try.prog W = stored Try.prog W a (.func (.func 77) #[] cs) m := fun a cs m W => run_store _ W a _ m rfl
  have BW := Lib.hid ((Below.refl W5.heap.size W5).alloc (Nat.le_refl _) (Obj.cells #[fn77 w.heap.size (w.heap.size + 1) (w.heap.size + 1 + 1 + 1 + 1) W5.heap.size] 122))
  have O := Lib.hid (show Oc (W5.alloc (Obj.cells #[fn77 w.heap.size (w.heap.size + 1) (w.heap.size + 1 + 1 + 1 + 1) W5.heap.size] 122)) w.heap.size (w.heap.size + 1) (w.heap.size + 1 + 1 + 1 + 1) W5.heap.size eb mb (w.heap.size + 1 + 1 + 1) N n L [] from
    ⟨H.out.below (HB5.out.trans (BW.out.mono HB5.out.size)), (BW.out.block _ (heap_lt h0.out)).trans h0.out, (BW.out.block _ (heap_lt h1.out)).trans h1.out, (BW.out.block _ (heap_lt h3.out)).trans h3.out, heap_alloc_new _ _,
      (show (fun _ => none) = seenM [] by funext i; simp [seenM]) ▸ (hm.out.keep (BW.out.block _ hm.out.lt)), by omega, List.Pairwise.nil, fun _ h => absurd h List.not_mem_nil⟩)
  have HT := Lib.hid ((HV.out.below HB5.out).below BW.out)
  obtain ⟨r, hr⟩ := H.out.ok.acyc
  obtain ⟨K, hK⟩ := rank_bound r t
  have HW := Lib.hid (within_any hr K t _ _ _ _ _ _ _ _ _ _ _ O.out HT.out ht hK (fun u hu => absurd hu List.not_mem_nil))
  clear hr hK
  go_wp2_with fail
  refine HW.out.mono ?_
  rintro e w6 ⟨b, rfl, hb, S3, _, hbut, _⟩
  have HBB := Lib.hid hb
  have HBU := Lib.hid (show Below w.heap.size w w6 from (HB5.out.trans (BW.out.mono HB5.out.size)).trans (hbut.below (by omega) (by simp; have := Z5.out; omega)))
  clear hb hbut
  go_wp2_with fail
  go_ret
  exact ⟨⟨b, rfl, HBB.out⟩, HBU.out⟩
set_option maxRecDepth 100000 in
set_option maxHeartbeats 4000000 in
theorem ubound_any {w : World} {eb mb N : Nat} {L : Bs} (h : EnvP w eb mb N L) {n : Int} (h0 : 0 ≤ n) (h1 : n < 1000) :
    Calls Try.prog 14 #[.pointer (some ⟨eb, 0, none⟩), .int .i64 n] w fun e w' => e = .returned (.bool (findB L n).isSome) ∧ Below w.heap.size w w' := by
  obtain ⟨b, q0, q1, qs, qA, qm, qc, hrun, hb⟩ := h.look h0 h1
  have e4 := cell_of_row w eb 0 _ _ _ h.blk
  have l4 := heap_lt h.blk
  have hb' : (findB L n).isSome = b := by
    rcases hb with ⟨rfl, t, h, _⟩ | ⟨rfl, h⟩ <;> rw [h] <;> rfl
  rw [hb']
  have R0 := hrun w rfl
  clear hrun hb hb' h
  go_enter Try.func14, Try.ntmps14
  go_wp2_with fail
  go_ret
  exact ⟨rfl, (Below.refl _ _).alloc (Nat.le_refl _) _⟩
set_option maxRecDepth 100000 in
set_option maxHeartbeats 4000000 in
theorem unew_any (w : World) : Calls Try.prog 11 #[] w fun e w' => (∃ eb mb, e = .returned (.pointer (some ⟨eb, 0, none⟩)) ∧ w.heap.size ≤ mb ∧ EnvP w' eb mb 0 []) ∧ Below w.heap.size w w' := by
  have MK : ∀ W : World, (Instr.makeMap 62 none).run Try.prog W = .ok (.map (some W.heap.size)) (W.alloc (.map #[] 0)) := fun W => run_makeMap _ W
  go_enter Try.func11, Try.ntmps11
  go_wp2_with fail
  go_ret
  refine ⟨⟨_, w.heap.size, rfl, Nat.le_refl _, (congrArg _ (by simp)).trans (heap_alloc_new _ _), by omega, ⟨fun _ => none, ?_, fun i => ⟨fun _ => rfl, fun t h => by cases h⟩⟩, EnvOk.nil⟩, ((Below.refl _ _).alloc (Nat.le_refl _) _).alloc (by simp) _⟩
  exact (IM.made w).keep (Below.heap_alloc _ _ _ (by simp))
end Go.Proofs.Ytjjkigphfijnbaa
