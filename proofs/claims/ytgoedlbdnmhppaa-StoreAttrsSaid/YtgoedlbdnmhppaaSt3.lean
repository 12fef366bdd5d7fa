/- The program's store: Undo. -/
import Derived.Test.YtgoedlbdnmhppaaSt2
namespace Go.Proofs.Ytgoedlbdnmhppaa
open Go.RowKit

/-- clear(s[o:]), s a row. -/
theorem run_clear_part {P : Program} (w : World) (t ty e : TypeId) (z : Value) (i : TypeInfo) (ht : P.underlying t = some (.slice e)) (hi : P.info? e = some i) (hz : i.zero = some z)
    (g o m c : Nat) (cur : Array Value) (hg : w.heap[g]? = some (.cells cur e (0, 0))) (hm : 0 < m) (h1 : ∀ u ∈ (Builtin.zeroCells z.cells m).toList, u.oneCell' = true) (hfit : o + (Builtin.zeroCells z.cells m).toList.length ≤ cur.size) :
    (Builtin.clear_ #[t] ty #[.slice (some ⟨g, o, none⟩) m c]).run P w = .ok (.tuple #[]) (w.setRow g (cur.toList.take o ++ (Builtin.zeroCells z.cells m).toList ++ cur.toList.drop (o + (Builtin.zeroCells z.cells m).toList.length)).toArray) := by
  have hst := run_storeCells_at P g o e (Builtin.zeroCells z.cells m).toList 0 cur w hg (by simpa using hfit) h1
  simp only [Nat.add_zero] at hst
  obtain ⟨k, rfl⟩ : ∃ k, m = k + 1 := ⟨m - 1, by omega⟩
  simp [Builtin.clear_, run_underlying ht, zeroValue, typeInfo, hi, hz] at hst ⊢
  simp [hst]
/-- The cells from the v-th on cleared, and struck. -/
theorem SM.struck {w w1 W : World} {B sb v : Nat} {C : List CV} {R : List (CV × Nat)} {M : List (Nat × Nat)} {A0 A1 A2 : Option Addr} {c0 c1 c2 : Nat}
    (hb : w.heap[sb]? = some (.cells #[.slice A0 C.length c0, .slice A1 R.length c1, .slice A2 M.length c2] 62 (0, 0)))
    (h0 : w.ownsRow B 70 9 (.slice A0 C.length c0) C.length (C.flatMap CV.vals)) (h1 : w.ownsRow B 72 10 (.slice A1 R.length c1) R.length (R.flatMap evals)) (h2 : w.ownsRow B 64 2 (.slice A2 M.length c2) M.length (M.flatMap mvals))
    (hge : B ≤ sb) (hv : v ≤ C.length) {k : Nat} (hk : k ≤ M.length) (hB : w.grownBy w1 (Value.slice A0 C.length c0).ownBlock) (hrow : w1.ownsRow B 70 9 (.slice A0 v c0) v ((C.take v).flatMap CV.vals))
    (hW : W = (w1.setCell ⟨sb, 0, none⟩ (.slice A0 v c0)).setCell ⟨sb, 2, none⟩ (.slice A2 k c2)) : SM W B sb (C.take v) R (M.take k) ∧ SF B w W := by
  have hbs : B ≤ w.heap.size := by have := heap_lt hb; omega
  have b1 := keepBox hb h0 (Below.refl _ _) hB (by decide)
  have b2 : W.heap[sb]? = some (.cells #[.slice A0 v c0, .slice A1 R.length c1, .slice A2 k c2] 62 (0, 0)) := by
    have := blk_set (blk_set b1 0 (.slice A0 v c0)) 2 (.slice A2 k c2)
    rw [hW]
    simpa using this
  have keepW : ∀ (k : Nat) (cs : Array Value) (ty : TypeId) (f : Nat × Nat), w1.heap[k]? = some (.cells cs ty f) → ty ≠ 62 → W.heap[k]? = some (.cells cs ty f) := fun k cs ty f hk hne => by
    have hks : k ≠ sb := by
      rintro rfl
      rw [b1] at hk
      injection hk with hk
      injection hk with _ hk
      exact hne hk.symm
    rw [hW]
    exact (Below.heap_setCell _ _ _ k hks).trans ((Below.heap_setCell _ _ _ k hks).trans hk)
  have rowW : ∀ {t : TypeId} {s n : Nat} {v : Value} {xs : List Value}, w1.ownsRow B t s v n xs → t ≠ 62 → W.ownsRow B t s v n xs := fun h hne => by
    refine own_keep h fun k hk => ?_
    obtain ⟨cs, f, hh⟩ := Go.Lib.ownsRow_kind h k hk
    exact (keepW _ _ _ _ hh hne).trans hh.symm
  refine ⟨⟨⟨A0, c0, A1, c1, A2, c2, ?_, ?_, ?_, ?_⟩, hge⟩, ?_⟩
  · rw [List.length_take, List.length_take, Nat.min_eq_left hv, Nat.min_eq_left hk]; exact b2
  · rw [List.length_take, Nat.min_eq_left hv]; exact rowW hrow (by decide)
  · exact rowW (grownOther h0 hB h1 (by decide)) (by decide)
  · rw [List.length_take, Nat.min_eq_left hk]
    have h3 := ownsRow_take (rowW (grownOther h0 hB h2 (by decide)) (by decide)) hk
    have e : (M.flatMap mvals).take (k * 2) = (M.take k).flatMap mvals := by
      conv => lhs; rw [← List.take_append_drop k M, List.flatMap_append]
      exact List.take_left' (by rw [flat_len mvals mvals_len, List.length_take, Nat.min_eq_left hk])
    rw [e] at h3
    exact h3
  · rw [hW]
    have F1 : SF B w w1 := ⟨((Below.refl _ _).mono hbs).grown hB hbs fun k hk => (h0.lt k hk).1, fun k o hk hn => by
      refine (hB.block k (heap_lt hk) fun h => ?_).trans hk
      obtain ⟨cs', f', hh'⟩ := Go.Lib.ownsRow_kind h0 k h.symm
      rw [hk] at hh'
      injection hh' with hh'
      exact (hn _ _ _ hh').2.1 rfl⟩
    exact (F1.setBox b1 hge _ _).setBox (blk_set b1 0 _) hge _ _
theorem clear_own {w : World} {B v : Nat} {C : List CV} {g c0 : Nat} (h0 : w.ownsRow B 70 9 (.slice (some ⟨g, 0, none⟩) C.length c0) C.length (C.flatMap CV.vals)) (hv : v < C.length) :
    ∃ w1, (∀ ty c, (Builtin.clear_ #[58] ty #[.slice (some ⟨g, v * 9, none⟩) (C.length - v) c]).run Try.prog w = .ok (.tuple #[]) w1) ∧ w.grownBy w1 (some g) ∧ w1.ownsRow B 70 9 (.slice (some ⟨g, 0, none⟩) v c0) v ((C.take v).flatMap CV.vals) := by
  obtain ⟨item, hi, hz, hs, _⟩ := elCell.hi
  rcases h0.2 with ⟨h, _⟩ | ⟨g', cap, cur, hv', hg, hh, hnc, hcm, hcs, ht⟩
  · cases h
  · injection hv' with e1 _ e3
    injection e1 with e1
    injection e1 with e1
    subst e1; subst e3
    have hzl : ((List.replicate (C.length - v) CV.zero).flatMap CV.vals).length = (C.length - v) * 9 := by rw [flat_len CV.vals cvals_len, List.length_replicate]
    have hcn : C.length * 9 ≤ c0 * 9 := Nat.mul_le_mul_right _ hnc
    have hpre : cur.toList.take (v * 9) = (C.take v).flatMap CV.vals := by
      have h2 := congrArg (List.take (v * 9)) ht
      rw [List.take_take, Nat.min_eq_left (Nat.mul_le_mul_right _ (Nat.le_of_lt hv))] at h2
      rw [h2]
      conv => lhs; rw [← List.take_append_drop v C, List.flatMap_append]
      exact List.take_left' (by rw [flat_len CV.vals cvals_len, List.length_take, Nat.min_eq_left (Nat.le_of_lt hv)])
    refine ⟨_, fun ty c => run_clear_part w _ ty _ _ item elCell.ht hi hz g (v * 9) (C.length - v) c cur hh (by omega) (zeros_one _) (by rw [zeros_cells, hzl]; omega), ⟨rfl, rfl, rfl, by simp [World.setRow], fun k _ hk => setRow_other w g k _ (fun e => hk (by rw [e]))⟩, ?_⟩
    refine ⟨by rw [flat_len CV.vals cvals_len, List.length_take, Nat.min_eq_left (Nat.le_of_lt hv)], .inr ⟨g, c0, _, rfl, hg, setRow_heap w g cur _ _ _ hh, by omega, hcm, ?_, ?_⟩⟩
    · rw [zeros_cells]
      simp only [List.size_toArray, List.length_append, List.length_take, List.length_drop, Array.length_toList, hzl]
      omega
    · rw [← hpre, zeros_cells]
      show (cur.toList.take (v * 9) ++ _ ++ _).take (v * 9) = _
      rw [List.append_assoc]
      exact List.take_left' (by simp; omega)
end Go.Proofs.Ytgoedlbdnmhppaa
