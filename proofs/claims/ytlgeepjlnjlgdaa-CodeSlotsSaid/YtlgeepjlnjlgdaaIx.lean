/- A map from integers, with the number of its entries. -/
import Derived.Test.YtlgeepjlnjlgdaaMap
import Derived.Test.YtlgeepjlnjlgdaaCo0
namespace Go.Proofs.Ytlgeepjlnjlgdaa
open Go.RowKit

/-- Block b holds a map of n entries: at the key i lies M i. -/
def IX (w : World) (b n : Nat) (M : Int → Option Value) : Prop :=
  ∃ D : DataW Value, w.ownsMap Try.prog 3 heldV b n D ∧ Maps.Tidy D ∧ Maps.size D = n ∧ ∀ i : Int, I64 i → Maps.has D (.int .i64 i) = (M i).isSome ∧ ∀ v, M i = some v → ∀ z, D.atKey (.int .i64 i) z = .held v
theorem IX.im {w : World} {b n : Nat} {M : Int → Option Value} (h : IX w b n M) : IM w b n M := by
  obtain ⟨D, h1, _, _, h2⟩ := h
  exact ⟨D, h1, h2⟩
theorem IX.made (w : World) : IX (w.alloc (.map #[] 0)) w.heap.size 0 (fun _ => none) :=
  ⟨.map [], World.ownsMap_made w _ _ _, ⟨[], rfl, List.Pairwise.nil⟩, rfl, fun i _ => ⟨rfl, fun v h => by cases h⟩⟩
theorem IX.keep {w w' : World} {b n : Nat} {M : Int → Option Value} (h : IX w b n M) (hb : w'.heap[b]? = w.heap[b]?) : IX w' b n M := by
  obtain ⟨D, ⟨es, clock, hh, r⟩, hT, hs, hM⟩ := h
  exact ⟨D, ⟨es, clock, hb.trans hh, r⟩, hT, hs, hM⟩
theorem IX.len {w : World} {b n : Nat} {M : Int → Option Value} (h : IX w b n M) {t e : TypeId} (ht : Try.prog.underlying t = some (.map 3 e)) (ty : TypeId) : (Builtin.len_ #[t] ty #[.map (some b)]).run Try.prog w = .ok (.int .i64 (n : Int)) w := by
  obtain ⟨D, h1, _, hs, _⟩ := h
  rw [h1.len ht ty, hs]
/-- A key that is not there is stored. -/
theorem IX.store {w : World} {b n : Nat} {M : Int → Option Value} (h : IX w b n M) {t e : TypeId} (ht : Try.prog.underlying t = some (.map 3 e)) (hn : n < maxLen) {i : Int} (hi : I64 i) (hno : M i = none) (v : Value) :
    ∃ w', (Instr.mapUpdate t (.map (some b)) (.int .i64 i) v).run Try.prog w = .ok () w' ∧ IX w' b (n + 1) (putI M i v) ∧ w.mapTurned w' b := by
  obtain ⟨D, h, hT, hs, hM⟩ := h
  have hm := h.isMap
  obtain ⟨w', hrun, h', ht'⟩ := h.store intKeyed ht hn (val := v) (d := .held v) (ps := []) (keyInt hi) rfl
  have hk : WideAt.IsKeyLit (.int .i64 i) := intKeyed.key (keyInt hi)
  refine ⟨w', hrun, ⟨_, h', hT.put hk _, ?_, fun j hj => ?_⟩, ht'⟩
  · have hh : Maps.has D (.int .i64 i) = false := by rw [(hM i hi).1, hno]; rfl
    rw [Maps.size_put hT, hh, hs]
    rfl
  · by_cases hji : j = i
    · subst hji
      refine ⟨by rw [Maps.has_put_same hm hk]; simp [putI], fun u hu z => ?_⟩
      rw [Maps.atKey_put_same hm hk]
      simp [putI] at hu
      rw [hu]
    · have hne : (Lit.int .i64 j) ≠ Lit.int .i64 i := fun e => by injection e with _ e; exact hji e
      refine ⟨by rw [Maps.has_put_other hne]; simp only [putI, if_neg hji]; exact (hM j hj).1, fun u hu z => ?_⟩
      rw [Maps.atKey_put_other hne]
      simp only [putI, if_neg hji] at hu
      exact (hM j hj).2 u hu z
/-- The slots of variables. -/
def slotM (vs : List Int) : Int → Option Value := fun n => (plN vs n 0).map fun i => Value.int .i64 (i : Int)
theorem slotM_put {vs : List Int} {n : Int} (h : n ∉ vs) : putI (slotM vs) n (.int .i64 (vs.length : Int)) = slotM (vs ++ [n]) := by
  funext j
  unfold putI slotM
  rw [plN_snoc vs n j 0 h]
  by_cases hj : j = n
  · rw [if_pos hj, if_pos hj]; simp
  · rw [if_neg hj, if_neg hj]
end Go.Proofs.Ytlgeepjlnjlgdaa
