/- The program's store: Fresh. -/
import Derived.Test.YtgoedlbdnmhppaaSt0
namespace Go.Proofs.Ytgoedlbdnmhppaa
open Go.RowKit

theorem range_at (z : Array Value) : (List.range z.size).map (fun i => z[i]!) = z.toList := by
  apply List.ext_getElem
  · simp
  · intro i h1 h2
    simp at h1
    simp [h1]
theorem zeroCells_list (z : Array Value) : ∀ k, (Builtin.zeroCells z k).toList = (List.replicate k z.toList).flatten
  | 0 => by simp [Builtin.zeroCells]
  | k + 1 => by
    rw [List.replicate_succ', List.flatten_append, ← zeroCells_list z k]
    unfold Builtin.zeroCells
    simp only [Array.toList_map, Array.toList_range, Nat.succ_mul, List.range_add, List.map_append, List.flatten_cons, List.flatten_nil, List.append_nil, List.map_map]
    congr 1
    rw [← range_at z]
    refine List.map_congr_left fun i hi => ?_
    have hi' : i < z.size := by simpa using hi
    simp [Nat.mod_eq_of_lt hi', Nat.add_mod]
theorem zeros_cells (k : Nat) : (Builtin.zeroCells (Value.agg #[.bool false, .int .i64 0, .int .i64 0, .string ⟨#[]⟩, .slice none 0 0, .int .i64 0, .int .i64 0, .string ⟨#[]⟩, .slice none 0 0]).cells k).toList = (List.replicate k CV.zero).flatMap CV.vals := by
  rw [zeroCells_list, List.flatMap_def, List.map_replicate]
  rfl
theorem cvals_one (c : CV) : ∀ u ∈ c.vals, u.oneCell' = true := by
  intro u hu
  simp only [CV.vals, TV.vals, List.mem_cons, List.mem_append, List.not_mem_nil, or_false] at hu
  rcases hu with rfl | (rfl | rfl | rfl | rfl) | (rfl | rfl | rfl | rfl) <;> rfl
theorem zeros_one (k : Nat) : ∀ u ∈ (Builtin.zeroCells (Value.agg #[.bool false, .int .i64 0, .int .i64 0, .string ⟨#[]⟩, .slice none 0 0, .int .i64 0, .int .i64 0, .string ⟨#[]⟩, .slice none 0 0]).cells k).toList, u.oneCell' = true := by
  intro u hu
  rw [zeros_cells] at hu
  obtain ⟨c, _, h⟩ := List.mem_flatMap.mp hu
  exact cvals_one c u h
/-- The box written at its first cell, behind an append onto the cells. -/
theorem SM.celled {w w2 W : World} {B sb : Nat} {C D : List CV} {R : List (CV × Nat)} {M : List (Nat × Nat)} {A0 A1 A2 : Option Addr} {c0 c1 c2 : Nat} {v : Value}
    (hb : w.heap[sb]? = some (.cells #[.slice A0 C.length c0, .slice A1 R.length c1, .slice A2 M.length c2] 62 (0, 0)))
    (h0 : w.ownsRow B 70 9 (.slice A0 C.length c0) C.length (C.flatMap CV.vals)) (h1 : w.ownsRow B 72 10 (.slice A1 R.length c1) R.length (R.flatMap evals)) (h2 : w.ownsRow B 64 2 (.slice A2 M.length c2) M.length (M.flatMap mvals))
    (hge : B ≤ sb) (hown : w2.ownsRow B 70 9 v (D.length) (D.flatMap CV.vals)) (hg : w.grownBy w2 (Value.slice A0 C.length c0).ownBlock)
    (hW : W = w2.setCell ⟨sb, 0, none⟩ v) : SM W B sb D R M ∧ SF B w W := by
  have hB : Below w.heap.size w w := Below.refl _ _
  have hbs : B ≤ w.heap.size := by have := heap_lt hb; omega
  have b2 := keepBox hb h0 hB hg (by decide)
  obtain ⟨VA, vc, rfl, _, _, _, _⟩ := own_open hown
  have keepW : ∀ (k : Nat) (cs : Array Value) (ty : TypeId) (f : Nat × Nat), w2.heap[k]? = some (.cells cs ty f) → ty ≠ 62 → W.heap[k]? = some (.cells cs ty f) := fun k cs ty f hk hne => by
    rw [hW]
    refine (Below.heap_setCell _ _ _ k ?_).trans hk
    rintro rfl
    rw [show w2.heap[_]? = _ from b2] at hk
    injection hk with hk
    injection hk with _ hk
    exact hne hk.symm
  refine ⟨⟨⟨VA, vc, A1, c1, A2, c2, ?_, ?_, ?_, ?_⟩, hge⟩, ?_, ?_⟩
  · rw [hW]; simpa using blk_set b2 0 (.slice VA D.length vc)
  · refine own_keep hown fun k hk => ?_
    obtain ⟨cs, f, hh⟩ := Go.Lib.ownsRow_kind hown k hk
    exact (keepW _ _ _ _ hh (by decide)).trans hh.symm
  · refine own_keep (grownOther h0 hg h1 (by decide)) fun k hk => ?_
    obtain ⟨cs, f, hh⟩ := Go.Lib.ownsRow_kind (grownOther h0 hg h1 (by decide)) k hk
    exact (keepW _ _ _ _ hh (by decide)).trans hh.symm
  · refine own_keep (grownOther h0 hg h2 (by decide)) fun k hk => ?_
    obtain ⟨cs, f, hh⟩ := Go.Lib.ownsRow_kind (grownOther h0 hg h2 (by decide)) k hk
    exact (keepW _ _ _ _ hh (by decide)).trans hh.symm
  · rw [hW]
    exact ((hB.mono hbs).grown hg hbs fun k hk => (h0.lt k hk).1).setCell (p := ⟨sb, 0, none⟩) hge _
  · intro k o hk hn
    have hk2 : w2.heap[k]? = some o := by
      refine (hg.block k (heap_lt hk) fun h => ?_).trans hk
      obtain ⟨cs', f', hh'⟩ := Go.Lib.ownsRow_kind h0 k h.symm
      rw [hk] at hh'
      injection hh' with hh'
      exact (hn _ _ _ hh').2.1 rfl
    rw [hW]
    refine (Below.heap_setCell _ _ _ k ?_).trans hk2
    rintro rfl
    rw [show w2.heap[_]? = _ from b2] at hk2
    injection hk2 with hk2
    exact (hn _ _ _ hk2.symm).1 rfl
def fresh (n : Int) : Nat := (max 0 (min n 1000)).toNat
theorem fresh_le (n : Int) : fresh n ≤ 1000 := by unfold fresh; omega
set_option maxRecDepth 100000 in
set_option maxHeartbeats 4000000 in
theorem sfresh_any {w : World} {B sb : Nat} {C : List CV} {R : List (CV × Nat)} {M : List (Nat × Nat)} (h : SM w B sb C R M) (hC : C.length ≤ 1000000) (n : Int) :
    Calls Try.prog 12 #[.pointer (some ⟨sb, 0, none⟩), .int .i64 n] w fun e w' => e = .returned (.int .i64 (C.length : Int)) ∧ SM w' B sb (C ++ List.replicate (fresh n) CV.zero) R M ∧ SF B w w' := by
  obtain ⟨A0, c0, A1, c1, A2, c2, hb, h0, h1, h2⟩ := h.ex
  have b0 := cell_of_row w sb 0 _ _ _ hb
  have hl := heap_lt hb
  have hBs : B ≤ w.heap.size := by have := h.ge; omega
  obtain ⟨v', w', hrun, hown, hg⟩ := run_append_own_zeros (P := Try.prog) w (ty := 58) (kq := .i64) elCell Try.underlying3 zeros_one h0 (fresh n) (by have := fresh_le n; unfold maxLen; omega) (by have := fresh_le n; omega) hBs
  rw [zeros_cells] at hown
  have hD : w'.ownsRow B 70 9 v' (C ++ List.replicate (fresh n) CV.zero).length ((C ++ List.replicate (fresh n) CV.zero).flatMap CV.vals) := by
    rw [List.length_append, List.length_replicate, List.flatMap_append]
    exact hown
  obtain ⟨VA, vc, rfl, _, _, _, _⟩ := own_open hD
  have S := Lib.hid (SM.celled hb h0 h1 h2 h.ge hD hg rfl)
  have Z := keepBox hb h0 (Below.refl _ _) hg (by decide)
  have z0 := cell_of_row w' sb 0 _ _ _ Z
  have zl := heap_lt Z
  have zf : w'.frozen? ⟨sb, 0, none⟩ = false := by simp [World.frozen?, Z]
  have hmm : (if (0 : Int) < (if (1000 : Int) < n then 1000 else n) then (if (1000 : Int) < n then 1000 else n) else 0) = ((fresh n : Nat) : Int) := by
    unfold fresh
    split <;> split at * <;> omega
  obtain ⟨k, hk⟩ : ∃ k, fresh n = k := ⟨_, rfl⟩
  rw [hk] at hrun hmm
  have HM := Lib.hid hmm
  have HK := Lib.hid hk
  clear hmm hown hD hb h0 h1 h2 h Z hg hk
  go_enter Try.func12, Try.ntmps12
  go_wp2_with (at_builtin; refine Lib.wpList_append_run _ rfl _ _ _ _ rfl _ _ rfl (congrArg (Value.int IntKind.i64) HM.out) _ _ hrun ?_)
  all_goals
    go_ret
    have h := S.out
    rw [List.length_append, List.length_replicate, HK.out] at h
    rw [HK.out]
    exact ⟨rfl, h⟩
end Go.Proofs.Ytgoedlbdnmhppaa
