/- The walk through coneyref08.bind. -/
import Derived.Test.YtgoedlbdnmhppaaMa
namespace Go.Proofs.Ytgoedlbdnmhppaa
open Go.RowKit

theorem Try.info_bnd : (Try.prog.info? 97).map (fun i => (i.zero, i.size, i.bytes)) = some (some (.agg #[.int .i64 0, .int .i64 0, .int .i64 0, .string ⟨#[]⟩, .slice none 0 0]), 5, 64) := by kernel_rfl
theorem elBnd : El Try.prog 29 97 (.agg #[.int .i64 0, .int .i64 0, .int .i64 0, .string ⟨#[]⟩, .slice none 0 0]) 5 64 := by
  obtain ⟨i0, hi, hz0, hz1, hz2⟩ := info_parts Try.info_bnd
  exact ⟨Try.underlying29, ⟨i0, hi, hz0, hz1, hz2⟩, rfl, by omega⟩
/-- A binding's five cells, at place i of a row. -/
structure BCell (w : World) (us : List Value) (i : Nat) (p : Int × T) (k0 k1 : Int) (k2 : ByteArray) (A0 : Option Addr) (m0 c0 : Nat) : Prop where
  n : us[i * 5]? = some (.int .i64 p.1)
  a0 : us[i * 5 + 1]? = some (.int .i64 k0)
  a1 : us[i * 5 + 2]? = some (.int .i64 k1)
  a2 : us[i * 5 + 3]? = some (.string k2)
  a3 : us[i * 5 + 4]? = some (.slice A0 m0 c0)
  tp : TP w (fun _ => True) p.2 (.agg #[.int .i64 k0, .int .i64 k1, .string k2, .slice A0 m0 c0])
/-- All cells of the bindings. -/
theorem BL.us {w : World} {A : Option Addr} {c : Nat} {L : Bs} (h : BL w A c L) : ∃ us : List Value, us.length = L.length * 5 ∧ (0 < L.length → ∃ b off, A = some ⟨b, off, none⟩ ∧ b < w.heap.size ∧ ∀ j u, us[j]? = some u → w.cell? ⟨b, off + j, none⟩ = some u) ∧ (∀ u ∈ us, u.oneCell' = true) ∧
    ∀ i p, L[i]? = some p → ∃ k0 k1 k2 A0 m0 c0, BCell w us i p k0 k1 k2 A0 m0 c0 := by
  rcases Nat.eq_zero_or_pos L.length with h0 | h0
  · refine ⟨[], by simp [h0], fun h => absurd h (by omega), fun u hu => absurd hu List.not_mem_nil, fun i p hp => ?_⟩
    rw [List.eq_nil_of_length_eq_zero h0] at hp
    simp at hp
  · obtain ⟨b, cs, f, _, _, _, _, _, _, hA, hh, _⟩ := h.cells 0 (L[0]'h0) (List.getElem?_eq_getElem h0)
    have same : ∀ i p, L[i]? = some p → ∃ (k0 k1 : Int) (k2 : ByteArray) (A0 : Option Addr) (m0 c0 : Nat), cs[i * 5]? = some (.int .i64 p.1) ∧ cs[i * 5 + 1]? = some (.int .i64 k0) ∧ cs[i * 5 + 2]? = some (.int .i64 k1) ∧ cs[i * 5 + 3]? = some (.string k2) ∧ cs[i * 5 + 4]? = some (.slice A0 m0 c0) ∧ TP w (fun _ => True) p.2 (.agg #[.int .i64 k0, .int .i64 k1, .string k2, .slice A0 m0 c0]) := fun i p hp => by
      obtain ⟨b', cs', f', k0, k1, k2, A0, m0, c0, hA', hh', h1, h2, h3, h4, h5, ht⟩ := h.cells i p hp
      rw [hA] at hA'
      injection hA' with hA'
      injection hA' with hA'
      subst hA'
      rw [hh] at hh'
      injection hh' with hh'
      injection hh' with hh'
      subst hh'
      exact ⟨k0, k1, k2, A0, m0, c0, h1, h2, h3, h4, h5, ht⟩
    have hsz : L.length * 5 ≤ cs.size := by
      obtain ⟨_, _, _, _, _, _, _, _, _, _, h5, _⟩ := same (L.length - 1) (L[L.length - 1]'(by omega)) (List.getElem?_eq_getElem (by omega))
      have : (L.length - 1) * 5 + 4 < cs.size := by
        rcases Nat.lt_or_ge ((L.length - 1) * 5 + 4) cs.size with h | h
        · exact h
        · rw [Array.getElem?_eq_none h] at h5; cases h5
      omega
    have key : ∀ j, j < L.length * 5 → (cs.toList.take (L.length * 5))[j]? = cs[j]? := fun j hj => by
      rw [List.getElem?_take, if_pos hj, Array.getElem?_toList]
    refine ⟨cs.toList.take (L.length * 5), by simp; omega, fun _ => ⟨b, 0, hA, heap_lt hh, fun j u hu => ?_⟩, fun u hu => ?_, fun i p hp => ?_⟩
    · rw [Nat.zero_add, cell_of_row w b j _ _ _ hh]
      rw [List.getElem?_take] at hu
      split at hu
      · rwa [Array.getElem?_toList] at hu
      · cases hu
    · obtain ⟨j, hj, hje⟩ := List.getElem_of_mem hu
      have hj2 : j < L.length * 5 := by simp at hj; omega
      obtain ⟨k0, k1, k2, A0, m0, c0, h1, h2, h3, h4, h5, _⟩ := same (j / 5) (L[j / 5]'(by omega)) (List.getElem?_eq_getElem (by omega))
      have hv := (show some u = _ from by rw [← hje]; exact (List.getElem?_eq_getElem hj).symm).trans (key j hj2)
      have hm : j = j / 5 * 5 + j % 5 := by omega
      have h5' : j % 5 < 5 := Nat.mod_lt _ (by omega)
      generalize hr : j % 5 = q at hm h5'
      rw [hm] at hv
      match q, h5' with
      | 0, _ => rw [Nat.add_zero, h1] at hv; injection hv with hv; rw [hv]; rfl
      | 1, _ => rw [h2] at hv; injection hv with hv; rw [hv]; rfl
      | 2, _ => rw [h3] at hv; injection hv with hv; rw [hv]; rfl
      | 3, _ => rw [h4] at hv; injection hv with hv; rw [hv]; rfl
      | 4, _ => rw [h5] at hv; injection hv with hv; rw [hv]; rfl
    · obtain ⟨k0, k1, k2, A0, m0, c0, h1, h2, h3, h4, h5, ht⟩ := same i p hp
      have hi : i < L.length := by
        rcases Nat.lt_or_ge i L.length with h | h
        · exact h
        · rw [List.getElem?_eq_none h] at hp; cases hp
      exact ⟨k0, k1, k2, A0, m0, c0, (key _ (by omega)).trans h1, (key _ (by omega)).trans h2, (key _ (by omega)).trans h3, (key _ (by omega)).trans h4, (key _ (by omega)).trans h5, ht⟩
theorem EnvOk.few {L : Bs} (h : EnvOk L) : L.length ≤ 1000 := by
  have := nodup_few 1000 (L.map Prod.fst) h.nd fun i hi => by
    obtain ⟨p, hp, rfl⟩ := List.mem_map.mp hi
    have := h.ok p hp
    exact ⟨this.1, this.2.1⟩
  simpa using this
/-- What 'bind' hands back. -/
def BindR (L : Bs) (w : World) (e : Ending) (w' : World) : Prop := (∃ A c, e = .returned (.slice A L.length c) ∧ BL w' A c L) ∧ Below w.heap.size w w'
theorem BL.of_row {w : World} {B : Nat} {v : Value} {L : Bs} {xs : List Value} (hx : w.ownsRow B 97 5 v L.length xs) (hc : ∀ i p, L[i]? = some p → ∃ k0 k1 k2 A0 m0 c0, BCell w xs i p k0 k1 k2 A0 m0 c0) (hf : L.length ≤ 1000) : ∃ A c, v = .slice A L.length c ∧ BL w A c L := by
  obtain ⟨A, c, rfl, h1, h2, _, h3⟩ := own_open hx
  refine ⟨A, c, rfl, h1, h2, hf, fun i p hp => ?_⟩
  have hi : i < L.length := by
    rcases Nat.lt_or_ge i L.length with h | h
    · exact h
    · rw [List.getElem?_eq_none h] at hp; cases hp
  obtain ⟨g, cur, rfl, _, hh, hcur⟩ := h3 (by omega)
  obtain ⟨k0, k1, k2, A0, m0, c0, hb⟩ := hc i p hp
  exact ⟨g, cur, (0, 0), k0, k1, k2, A0, m0, c0, rfl, hh, (hcur _ (by omega)).trans hb.n, (hcur _ (by omega)).trans hb.a0, (hcur _ (by omega)).trans hb.a1, (hcur _ (by omega)).trans hb.a2, (hcur _ (by omega)).trans hb.a3, hb.tp⟩
set_option maxRecDepth 100000 in
set_option maxHeartbeats 4000000 in
theorem rbind_any {w : World} {A : Option Addr} {c : Nat} {L : Bs} (hbl : BL w A c L) {t : T} {v : Value} (hv : TP w (fun _ => True) t v) {n : Int} (hL : EnvOk (L ++ [(n, t)])) :
    Calls Try.prog 59 #[.slice A L.length c, .int .i64 n, v] w fun e w' => BindR (L ++ [(n, t)]) w e w' := by
  obtain ⟨k, nn, s, A1, m1, c1, rfl⟩ := hv.agg
  obtain ⟨us, hul, huc, hu1, hub⟩ := hbl.us
  have hfew := hL.few
  rw [List.length_append] at hfew
  simp only [List.length_cons, List.length_nil] at hfew
  have hcap := hbl.cap
  have hnil := hbl.nil
  have HV := Lib.hid hv
  have HUC := Lib.hid huc
  have HU1 := Lib.hid hu1
  have HUB := Lib.hid hub
  have HUL := Lib.hid hul
  have HF := Lib.hid hfew
  obtain ⟨ll, hll⟩ : ∃ ll, ll = L.length := ⟨_, rfl⟩
  rw [← hll] at hcap hfew hul ⊢
  have HLL := Lib.hid hll
  clear hbl hv huc hu1 hub hul hll
  go_enter Try.func59, Try.ntmps59
  go_wp2_with (at_builtin; go_must (refine wpList_append_cells _ rfl _ _ _ rfl elBnd (w.heap.size + 1) _ 0 [] rfl ?_ A ll c us rfl hnil hcap (by have := HUL.out; have := HLL.out; omega) ?_ HU1.out (by omega) (by unfold maxLen; omega) (by simp) ?_))
  · have := ownsRow_empty ((w.alloc (Obj.cells #[.int .i64 k, .int .i64 nn, .string s, .slice A1 m1 c1] 40)).alloc (Obj.cells #[] 97)) 97 5 (w.heap.size + 1) ((congrArg _ (by simp)).trans (heap_alloc_new _ _))
    exact this
  · intro h0
    obtain ⟨b, off, hA, hb, hc⟩ := HUC.out (by have := HLL.out; omega)
    refine ⟨b, off, hA, fun j u hu => ?_⟩
    exact ((belA (belA (Below.refl w.heap.size w) (Obj.cells #[.int .i64 k, .int .i64 nn, .string s, .slice A1 m1 c1] 40)) (Obj.cells #[] 97)).cell (p := ⟨b, off + j, none⟩) hb).trans (hc j u hu)
  intro v1 w1 hown1 hg1
  have O1 := Lib.hid hown1
  have B1 := Lib.hid (show Below (w.heap.size + 1) (w.alloc (Obj.cells #[.int .i64 k, .int .i64 nn, .string s, .slice A1 m1 c1] 40)) w1 from by
    have h := (Below.refl (w.alloc (Obj.cells #[.int .i64 k, .int .i64 nn, .string s, .slice A1 m1 c1] 40)).heap.size (w.alloc (Obj.cells #[.int .i64 k, .int .i64 nn, .string s, .slice A1 m1 c1] 40))).alloc (Nat.le_refl _) (Obj.cells #[] 97)
    have h2 := h.grown hg1 (by simp) (fun q hq => by simp [Value.ownBlock] at hq; simp; omega)
    simpa using h2)
  have X1 : w1.heap[w.heap.size]? = some (.cells #[.int .i64 k, .int .i64 nn, .string s, .slice A1 m1 c1] 40 (0, 0)) := (B1.out.block _ (by omega)).trans (heap_alloc_new _ _)
  obtain ⟨z0, z1, z2, z3⟩ := box4 X1
  have hs1 := heap_lt X1
  clear hown1 hg1 X1
  go_wp2_with (at_builtin; go_must (refine wpList_push_any _ rfl _ _ _ rfl elBnd (w.heap.size + 1) v1 ll _ rfl (own_below O1.out (belA (Below.refl _ _) _)) w1.heap.size 1 [.int .i64 n, .int .i64 k, .int .i64 nn, .string s, .slice A1 m1 c1] rfl rfl ?_ ?_ (by omega) (by unfold maxLen; omega) (by simp; omega) ?_))
  · intro j u hu
    rw [cell_of_row _ _ j _ _ _ (heap_alloc_new _ _)]
    simpa using hu
  · intro u hu
    simp only [List.mem_cons, List.not_mem_nil, or_false] at hu
    rcases hu with rfl | rfl | rfl | rfl | rfl <;> rfl
  intro v2 w2 hown2 hb2
  have O2 := Lib.hid hown2
  have B2 := Lib.hid (show Below w.heap.size w w2 from ((Below.refl w.heap.size w).alloc (Nat.le_refl _) _).trans (((B1.out.mono (by omega)).alloc (by omega) (Obj.cells #[.int .i64 n, .int .i64 k, .int .i64 nn, .string s, .slice A1 m1 c1] 97)).trans (hb2.mono (by omega))))
  clear hown2 hb2 z0 z1 z2 z3
  go_wp2_with fail
  go_ret
  refine ⟨?_, B2.out⟩
  have hlen : (L ++ [(n, t)]).length = ll + 1 := by rw [List.length_append]; simp [HLL.out]
  obtain ⟨A2, c2, e2, hbl2⟩ := BL.of_row (L := L ++ [(n, t)]) (by rw [hlen]; exact O2.out) (fun i p hp => by
    have hul := HUL.out
    by_cases hi : i < L.length
    · rw [List.getElem?_append_left hi] at hp
      obtain ⟨k0, k1, k2, A0, m0, c0, hb⟩ := HUB.out i p hp
      have key : ∀ j, j < 5 → ([] ++ us ++ [.int .i64 n, .int .i64 k, .int .i64 nn, .string s, Value.slice A1 m1 c1])[i * 5 + j]? = us[i * 5 + j]? := fun j hj => by
        rw [List.nil_append, List.getElem?_append_left (by omega)]
      exact ⟨k0, k1, k2, A0, m0, c0, (key 0 (by omega)).trans hb.n, (key 1 (by omega)).trans hb.a0, (key 2 (by omega)).trans hb.a1, (key 3 (by omega)).trans hb.a2, (key 4 (by omega)).trans hb.a3, hb.tp.below B2.out⟩
    · rw [List.getElem?_append_right (by omega)] at hp
      have hi0 : i = L.length := by
        rcases Nat.eq_zero_or_pos (i - L.length) with h | h
        · omega
        · rw [List.getElem?_eq_none (by simp; omega)] at hp; cases hp
      subst hi0
      simp at hp
      subst hp
      have key : ∀ j, ([] ++ us ++ [.int .i64 n, .int .i64 k, .int .i64 nn, .string s, Value.slice A1 m1 c1])[L.length * 5 + j]? = [.int .i64 n, .int .i64 k, .int .i64 nn, .string s, Value.slice A1 m1 c1][j]? := fun j => by
        rw [List.nil_append, List.getElem?_append_right (by omega), hul]
        congr 1
        omega
      exact ⟨k, nn, s, A1, m1, c1, by simpa using key 0, by simpa using key 1, by simpa using key 2, by simpa using key 3, by simpa using key 4, HV.out.below B2.out⟩) (by rw [List.length_append]; exact HF.out)
  subst e2
  exact ⟨A2, c2, rfl, hbl2⟩
end Go.Proofs.Ytgoedlbdnmhppaa
