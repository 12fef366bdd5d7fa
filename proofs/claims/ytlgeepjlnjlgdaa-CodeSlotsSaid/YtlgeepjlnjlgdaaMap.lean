/- Maps from integers to values, as the call itself made them: what is at a key, by a function. -/
import Derived.Test.YtlgeepjlnjlgdaaRd4
import Derived.Test.YtlgeepjlnjlgdaaRow
import Derived.WalkKit
import Derived.Lib.Hide
import Derived.Below
import Derived.Maps.Own
import Derived.Maps.OwnSet
import Derived.Maps.Views
namespace Go.Proofs.Ytlgeepjlnjlgdaa
open Go.RowKit

theorem intKeyed : Go.Maps.Keyed Try.prog 3 := Go.Maps.int_keyed Try.underlying3
theorem keyInt {i : Int} (h : I64 i) : keyOf Try.prog 3 (.int .i64 i) = some (.int .i64 i) := by
  have h1 : (IntKind.i64.min ≤ i) := h.1
  have h2 : (i ≤ IntKind.i64.max) := h.2
  exact Go.Maps.keyOf_int_mk Try.underlying3 (by simp only [Lit.wf, decide_eq_true h1, decide_eq_true h2, Bool.and_self])
/-- An element is its own datum. -/
def heldV (v : Value) : Option (DataW Value × List MemPlace) := some (.held v, [])
/-- Block b holds a map of at most n entries: at the key i lies M i. -/
def IM (w : World) (b n : Nat) (M : Int → Option Value) : Prop :=
  ∃ D : DataW Value, w.ownsMap Try.prog 3 heldV b n D ∧ ∀ i : Int, I64 i → Maps.has D (.int .i64 i) = (M i).isSome ∧ ∀ v, M i = some v → ∀ z, D.atKey (.int .i64 i) z = .held v
theorem IM.made (w : World) : IM (w.alloc (.map #[] 0)) w.heap.size 0 (fun _ => none) :=
  ⟨.map [], World.ownsMap_made w _ _ _, fun i _ => ⟨rfl, fun v h => by cases h⟩⟩
theorem IM.keep {w w' : World} {b n : Nat} {M : Int → Option Value} (h : IM w b n M) (hb : w'.heap[b]? = w.heap[b]?) : IM w' b n M := by
  obtain ⟨D, ⟨es, clock, hh, r⟩, hM⟩ := h
  exact ⟨D, ⟨es, clock, hb.trans hh, r⟩, hM⟩
theorem IM.lt {w : World} {b n : Nat} {M : Int → Option Value} (h : IM w b n M) : b < w.heap.size := by
  obtain ⟨D, h, _⟩ := h
  exact h.lt
theorem IM.look {w : World} {b n : Nat} {M : Int → Option Value} (h : IM w b n M) {t e : TypeId} (ht : Try.prog.underlying t = some (.map 3 e)) {z : Value} (hz : (zeroValue e).run Try.prog w = .ok z w) {i : Int} (hi : I64 i) :
    (Instr.lookup t (.map (some b)) (.int .i64 i) true).run Try.prog w = .ok (.tuple #[(M i).getD z, .bool (M i).isSome]) w := by
  obtain ⟨D, h, hM⟩ := h
  obtain ⟨v, ps, hrun, hv⟩ := h.look_ok intKeyed ht hz (zd := .held z) (zp := []) rfl (keyInt hi)
  obtain ⟨h1, h2⟩ := hM i hi
  rw [hrun, h1]
  have : v = (M i).getD z := by
    have hv : DataW.held v = D.atKey (.int .i64 i) (.held z) := congrArg Prod.fst (Option.some.inj hv)
    cases hm : M i with
    | none =>
      rw [hm] at h1
      rw [Maps.atKey_of_not_has h1] at hv
      injection hv with hv
    | some u =>
      rw [h2 u hm] at hv
      injection hv with hv
  rw [this]
theorem IM.look1 {w : World} {b n : Nat} {M : Int → Option Value} (h : IM w b n M) {t e : TypeId} (ht : Try.prog.underlying t = some (.map 3 e)) {z : Value} (hz : (zeroValue e).run Try.prog w = .ok z w) {i : Int} (hi : I64 i) :
    (Instr.lookup t (.map (some b)) (.int .i64 i) false).run Try.prog w = .ok ((M i).getD z) w := by
  obtain ⟨D, h, hM⟩ := h
  obtain ⟨v, ps, hrun, hv⟩ := h.lookup intKeyed ht hz (zd := .held z) (zp := []) rfl (keyInt hi)
  obtain ⟨h1, h2⟩ := hM i hi
  rw [hrun]
  have : v = (M i).getD z := by
    have hv : DataW.held v = D.atKey (.int .i64 i) (.held z) := congrArg Prod.fst (Option.some.inj hv)
    cases hm : M i with
    | none =>
      rw [hm] at h1
      rw [Maps.atKey_of_not_has h1] at hv
      injection hv with hv
    | some u =>
      rw [h2 u hm] at hv
      injection hv with hv
  rw [this]
def putI (M : Int → Option Value) (i : Int) (v : Value) : Int → Option Value := fun j => if j = i then some v else M j
def delI (M : Int → Option Value) (i : Int) : Int → Option Value := fun j => if j = i then none else M j
theorem IM.store {w : World} {b n : Nat} {M : Int → Option Value} (h : IM w b n M) {t e : TypeId} (ht : Try.prog.underlying t = some (.map 3 e)) (hn : n < maxLen) {i : Int} (hi : I64 i) (v : Value) :
    ∃ w', (Instr.mapUpdate t (.map (some b)) (.int .i64 i) v).run Try.prog w = .ok () w' ∧ IM w' b (n + 1) (putI M i v) ∧ w.mapTurned w' b := by
  obtain ⟨D, h, hM⟩ := h
  have hm := h.isMap
  obtain ⟨w', hrun, h', ht'⟩ := h.store intKeyed ht hn (val := v) (d := .held v) (ps := []) (keyInt hi) rfl
  refine ⟨w', hrun, ⟨_, h', fun j hj => ?_⟩, ht'⟩
  have hk : WideAt.IsKeyLit (.int .i64 i) := intKeyed.key (keyInt hi)
  by_cases hji : j = i
  · subst hji
    refine ⟨by rw [Maps.has_put_same hm hk]; simp [putI], fun u hu z => ?_⟩
    rw [Maps.atKey_put_same hm hk]
    simp [putI] at hu
    rw [hu]
  · have hne : (Lit.int .i64 j) ≠ Lit.int .i64 i := fun e => by injection e with _ e; exact hji e
    refine ⟨by rw [Maps.has_put_other hne]; simp only [putI, if_neg hji]; exact (hM j hj).1, fun u hu z => ?_⟩
    rw [Maps.atKey_put_other hne]
    simp only [putI, if_neg hji] at hu
    exact (hM j hj).2 u hu z
theorem IM.drop {w : World} {b n : Nat} {M : Int → Option Value} (h : IM w b n M) {t e : TypeId} (ht : Try.prog.underlying t = some (.map 3 e)) {i : Int} (hi : I64 i) (ty : TypeId) :
    ∃ w', (Builtin.delete_ #[t, 3] ty #[.map (some b), .int .i64 i]).run Try.prog w = .ok (.tuple #[]) w' ∧ IM w' b n (delI M i) ∧ w.mapTurned w' b := by
  obtain ⟨D, h, hM⟩ := h
  obtain ⟨w', hrun, h', ht'⟩ := h.drop intKeyed ht (keyInt hi) ty
  refine ⟨w', hrun, ⟨_, h', fun j hj => ?_⟩, ht'⟩
  by_cases hji : j = i
  · subst hji
    exact ⟨by rw [Maps.has_del_same]; simp [delI], fun u hu => by simp [delI] at hu⟩
  · have hne : (Lit.int .i64 j) ≠ Lit.int .i64 i := fun e => by injection e with _ e; exact hji e
    refine ⟨by rw [Maps.has_del_other hne]; simp only [delI, if_neg hji]; exact (hM j hj).1, fun u hu z => ?_⟩
    rw [Maps.atKey_del_other hne]
    simp only [delI, if_neg hji] at hu
    exact (hM j hj).2 u hu z
/-- What a store into a map leaves alone: every other block. -/
theorem turned_block {w w' : World} {b : Nat} (h : w.mapTurned w' b) (c : Nat) (hc : c ≠ b) : w'.heap[c]? = w.heap[c]? := by
  obtain ⟨es, clock, es', clock', hb, rfl⟩ := h
  exact Go.ChangeMaps.heap_setBlock_other hb _ hc
theorem turned_size {w w' : World} {b : Nat} (h : w.mapTurned w' b) : w'.heap.size = w.heap.size := by
  obtain ⟨es, clock, es', clock', hb, rfl⟩ := h
  simp [Go.ChangeMaps.setBlock]
theorem Below.turned {B : Nat} {W w w' : World} {b : Nat} (h : Below B W w) (ht : w.mapTurned w' b) (hb : B ≤ b) : Below B W w' :=
  h.grown ht.grown (by obtain ⟨es, clock, _, _, hh, _⟩ := ht; have := heap_lt hh; omega) fun k hk => by cases hk; exact hb
end Go.Proofs.Ytlgeepjlnjlgdaa
