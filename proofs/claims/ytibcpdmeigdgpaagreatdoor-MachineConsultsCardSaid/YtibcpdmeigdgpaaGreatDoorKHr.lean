/- The walks through coneyref11.place, Same; code.Slots. The walk through coneyref11.code. The walk through coneyref11.Encode. Maps from integers to values, as the call itself made them: what is at a key, by a function. A map from integers, with the number of its entries. -/
import Derived.Test.YtibcpdmeigdgpaaGreatDoorKHd
import Derived.Test.YtibcpdmeigdgpaaGreatDoorKHf
import Derived.Deep.RegionHeld3
import Derived.Deep.RegionLaw
import Derived.Deep.DrawnRows
import Derived.Deep.AppendLies
import Derived.Test.YtibcpdmeigdgpaaGreatDoorKHb
import Derived.Test.YtibcpdmeigdgpaaGreatDoorKGa
import Derived.WalkKit
import Derived.Lib.Hide
import Derived.Below
import Derived.Maps.Own
import Derived.Maps.OwnSet
import Derived.Maps.Views
namespace Go.Proofs.YtibcpdmeigdgpaaGreatDoor
open Go.RowKit
def IRw (w : World) (B : Nat) (v : Value) (l : List Ins) : Prop := w.ownsRow B 55 3 v l.length (insCells l)
theorem insrow {w : World} {B : Nat} {A : Option Addr} {c n i : Nat} {l : List Ins} (h : IRw w B (.slice A n c) l) (hn : n = l.length) (hi : i < l.length) : ∃ g, A = some ⟨g, 0, none⟩ ∧ g < w.heap.size ∧ ∀ j, j < 3 → w.cell? ⟨g, i * 3 + j, none⟩ = (l[i]'hi).cells[j]? := by
 subst hn
 obtain ⟨A', c', he, _, _, _, hx⟩ := own_open h
 injection he with e1 _ e3
 subst e1; subst e3
 obtain ⟨g, cur, rfl, _, hh, hc⟩ := hx (by omega)
 exact ⟨g, rfl, heap_lt hh, fun j hj => by rw [cell_of_row w g (i * 3 + j) _ _ _ hh, hc _ (by omega), Nat.mul_comm i 3]; exact insCells_at l i hi j hj⟩
end Go.Proofs.YtibcpdmeigdgpaaGreatDoor
namespace Go.Proofs.YtibcpdmeigdgpaaGreatDoor
open Go.RowKit
structure Kp (B : Nat) (w w' : World) : Prop where
 low : Below B w w'
 keep : ∀ (b : Nat) (cs : Array Value) (t : TypeId) (m : Nat × Nat), w.heap[b]? = some (.cells cs t m) → t ≠ 55 → w'.heap[b]? = some (.cells cs t m)
theorem Kp.of {B : Nat} {w w' : World} (h : Below w.heap.size w w') (hB : B ≤ w.heap.size) : Kp B w w' := ⟨h.mono hB, fun b _ _ _ hb _ => (h.block b (heap_lt hb)).trans hb⟩
theorem Kp.trans {B : Nat} {w w1 w2 : World} (h : Kp B w w1) (k : Kp B w1 w2) : Kp B w w2 := ⟨h.low.trans k.low, fun b cs t m hb ht => k.keep b cs t m (h.keep b cs t m hb ht) ht⟩
theorem Kp.size {B : Nat} {w w' : World} (h : Kp B w w') : w.heap.size ≤ w'.heap.size := h.low.size
theorem Kp.drew {B : Nat} {w w' : World} (h : Kp B w w') : Kp B w w'.drew := ⟨h.low.drew, h.keep⟩
theorem Kp.tp {B : Nat} {w w' : World} (h : Kp B w w') {S : Nat → Prop} {t : T} {v : Value} (ht : TP w S t v) : TP w' S t v := ht.keep fun b cs f hS hb => ⟨h.keep b cs _ f hb (by decide), hS⟩
theorem Kp.own {B : Nat} {w w' : World} (h : Kp B w w') {B' : Nat} {e : TypeId} {size : Nat} {v : Value} {n : Nat} {xs : List Value} (ho : w.ownsRow B' e size v n xs) (he : e ≠ 55) : w'.ownsRow B' e size v n xs :=
 own_keep ho fun g hg => by
  obtain ⟨cs, f, hh⟩ := Go.Lib.ownsRow_kind ho _ hg
  exact (h.keep g cs e f hh he).trans hh.symm
theorem Kp.grown {B : Nat} {w w' : World} {v : Value} {n : Nat} {xs : List Value} (hg : w.grownBy w' v.ownBlock) (ho : w.ownsRow B 55 3 v n xs) (hB : B ≤ w.heap.size) : Kp B w w' :=
 ⟨(Below.refl _ _).grown hg hB (ownBlock_ge ho), fun b cs t m hb ht => by
   refine (hg.block b (heap_lt hb) fun e => ?_).trans hb
   obtain ⟨cs', f, hh⟩ := Go.Lib.ownsRow_kind ho _ e.symm
   rw [hb] at hh
   injection hh with hh
   injection hh with _ hh
   exact ht hh⟩
theorem Tryz.info_ins : (Tryz.prog.info? 55).map (fun i => (i.zero, i.size, i.bytes)) = some (some (.agg #[.int .i64 0, .int .i64 0, .string ⟨#[]⟩]), 3, 32) := by kernel_rfl
theorem elIns : El Tryz.prog 49 55 (.agg #[.int .i64 0, .int .i64 0, .string ⟨#[]⟩]) 3 32 := by
 obtain ⟨i0, hi, hz0, hz1, hz2⟩ := info_parts Tryz.info_ins
 exact ⟨Tryz.underlying49, ⟨i0, hi, hz0, hz1, hz2⟩, rfl, by omega⟩
theorem insCells_small (l : List Ins) : ∀ u ∈ insCells l, u.oneCell' = true := by
 intro u hu
 simp only [insCells, List.mem_flatMap] at hu
 obtain ⟨q, _, hu⟩ := hu
 simp only [Ins.cells, List.mem_cons, List.not_mem_nil, or_false] at hu
 rcases hu with rfl | rfl | rfl <;> rfl
theorem codeT_len : ∀ (t : T), t.kinds → ∀ vs, (codeT t vs).1.length = t.nodes ∧ (codeT t vs).2.length ≤ vs.length + t.nodes
 | .nil, h, _ => h.elim
 | .mk k n s m a, h, vs => by
  obtain ⟨hk, hm, ha⟩ := h
  have one : k ≠ 4 → (T.mk k n s m a).nodes = 1 := fun hk4 => by
   have := hm hk4
   subst this
   rfl
  unfold codeT
  by_cases h1 : k = 1
  ·rw [if_pos h1, one (by omega)]
   cases plN vs n 0 <;> simp
  ·rw [if_neg h1]
   by_cases h2 : k = 2
   ·rw [if_pos h2, one (by omega)]; simp
   ·rw [if_neg h2]
    by_cases h3 : k = 3
    ·rw [if_pos h3, one (by omega)]; simp
    ·rw [if_neg h3]
     have key : ∀ (q : Nat), q ≤ m → (foldC q (fun i => codeT (a i)) ([⟨6, (m : Int), s⟩], vs)).1.length = 1 + sumTo q (fun i => (a i).nodes) ∧ (foldC q (fun i => codeT (a i)) ([⟨6, (m : Int), s⟩], vs)).2.length ≤ vs.length + (1 + sumTo q (fun i => (a i).nodes)) := by
      intro q
      induction q with
      | zero => intro _; simp [foldC, sumTo]
      | succ q ih =>
       intro hq
       obtain ⟨i1, i2⟩ := ih (by omega)
       obtain ⟨j1, j2⟩ := codeT_len (a q) (ha q (by omega)) (foldC q (fun i => codeT (a i)) ([⟨6, (m : Int), s⟩], vs)).2
       refine ⟨?_, ?_⟩
       ·show ((foldC q (fun i => codeT (a i)) ([⟨6, (m : Int), s⟩], vs)).1 ++ (codeT (a q) (foldC q (fun i => codeT (a i)) ([⟨6, (m : Int), s⟩], vs)).2).1).length = 1 + (sumTo q (fun i => (a i).nodes) + (a q).nodes)
        rw [List.length_append, i1, j1]
        omega
       ·show (codeT (a q) (foldC q (fun i => codeT (a i)) ([⟨6, (m : Int), s⟩], vs)).2).2.length ≤ vs.length + (1 + (sumTo q (fun i => (a i).nodes) + (a q).nodes))
        omega
     exact key m (Nat.le_refl _)
theorem sumTo_le (f : Nat → Nat) : ∀ {a b : Nat}, a ≤ b → sumTo a f ≤ sumTo b f
 | a, 0, h => by obtain rfl : a = 0 := by omega
                 exact Nat.le_refl _
 | a, b + 1, h => by
  rcases Nat.eq_or_lt_of_le h with rfl | h1
  ·exact Nat.le_refl _
  ·have := sumTo_le f (show a ≤ b by omega)
   simp only [sumTo]
   omega
end Go.Proofs.YtibcpdmeigdgpaaGreatDoor
namespace Go.Proofs.YtibcpdmeigdgpaaGreatDoor
open Go.RowKit
theorem codeG_len : ∀ (gs : List T) (r : List Ins × List Int), (∀ g ∈ gs, g.kinds) → (codeG gs r).1.length = r.1.length + gs.length + nodesL gs ∧ (codeG gs r).2.length ≤ r.2.length + nodesL gs
 | [], r, _ => ⟨by simp [codeG, nodesL], by simp [codeG, nodesL]⟩
 | g :: gs, r, h => by
  obtain ⟨j1, j2⟩ := codeT_len g (h g (by simp)) r.2
  obtain ⟨i1, i2⟩ := codeG_len gs (r.1 ++ [⟨7, 0, ⟨#[]⟩⟩] ++ (codeT g r.2).1, (codeT g r.2).2) fun x hx => h x (by simp [hx])
  have e : codeG (g :: gs) r = codeG gs (r.1 ++ [⟨7, 0, ⟨#[]⟩⟩] ++ (codeT g r.2).1, (codeT g r.2).2) := rfl
  rw [e]
  simp only [List.length_append, List.length_cons, List.length_nil, nodesL, List.map_cons, List.sum_cons] at i1 i2 j1 j2 ⊢
  exact ⟨by omega, by omega⟩
def EncP (th : T) (gs : List T) (w : World) (e : Ending) (w' : World) : Prop := ∃ lv : Value, e = .returned lv ∧ IRw w' w.heap.size lv (encN th gs) ∧ Kp w.heap.size w w'
theorem IRw.all {w : World} {B : Nat} {v : Value} {l : List Ins} (h : IRw w B v l) : ∃ A c, v = .slice A l.length c ∧ l.length ≤ c ∧ (A = none → c = 0) ∧ (0 < l.length → ∃ b off, A = some ⟨b, off, none⟩ ∧ b < w.heap.size ∧ ∀ j u, (insCells l)[j]? = some u → w.cell? ⟨b, off + j, none⟩ = some u) := by
 obtain ⟨A, c, rfl, hc, hA, _, hx⟩ := own_open h
 refine ⟨A, c, rfl, hc, hA, fun h0 => ?_⟩
 obtain ⟨g, cur, rfl, _, hh, hcur⟩ := hx h0
 refine ⟨g, 0, rfl, heap_lt hh, fun j u hu => ?_⟩
 have hj : j < l.length * 3 := by
  rcases Nat.lt_or_ge j (insCells l).length with h1 | h1
  ·rw [insCells_length] at h1; omega
  ·rw [List.getElem?_eq_none h1] at hu; cases hu
 rw [Nat.zero_add, cell_of_row w g j _ _ _ hh, hcur j hj, hu]
end Go.Proofs.YtibcpdmeigdgpaaGreatDoor
namespace Go.Proofs.YtibcpdmeigdgpaaGreatDoor
open Go.RowKit
theorem intKeyed : Go.Maps.Keyed Tryz.prog 3 := Go.Maps.int_keyed Tryz.underlying3
theorem keyInt {i : Int} (h : I64 i) : keyOf Tryz.prog 3 (.int .i64 i) = some (.int .i64 i) := by
 have h1 : (IntKind.i64.min ≤ i) := h.1
 have h2 : (i ≤ IntKind.i64.max) := h.2
 exact Go.Maps.keyOf_int_mk Tryz.underlying3 (by simp only [Lit.wf, decide_eq_true h1, decide_eq_true h2, Bool.and_self])
def heldV (v : Value) : Option (DataW Value × List MemPlace) := some (.held v, [])
def IM (w : World) (b n : Nat) (M : Int → Option Value) : Prop :=
 ∃ D : DataW Value, w.ownsMap Tryz.prog 3 heldV b n D ∧ ∀ i : Int, I64 i → Maps.has D (.int .i64 i) = (M i).isSome ∧ ∀ v, M i = some v → ∀ z, D.atKey (.int .i64 i) z = .held v
theorem IM.made (w : World) : IM (w.alloc (.map #[] 0)) w.heap.size 0 (fun _ => none) :=
 ⟨.map [], World.ownsMap_made w _ _ _, fun i _ => ⟨rfl, fun v h => by cases h⟩⟩
theorem IM.keep {w w' : World} {b n : Nat} {M : Int → Option Value} (h : IM w b n M) (hb : w'.heap[b]? = w.heap[b]?) : IM w' b n M := by
 obtain ⟨D, ⟨es, clock, hh, r⟩, hM⟩ := h
 exact ⟨D, ⟨es, clock, hb.trans hh, r⟩, hM⟩
theorem IM.lt {w : World} {b n : Nat} {M : Int → Option Value} (h : IM w b n M) : b < w.heap.size := by
 obtain ⟨D, h, _⟩ := h
 exact h.lt
theorem IM.look {w : World} {b n : Nat} {M : Int → Option Value} (h : IM w b n M) {t e : TypeId} (ht : Tryz.prog.underlying t = some (.map 3 e)) {z : Value} (hz : (zeroValue e).run Tryz.prog w = .ok z w) {i : Int} (hi : I64 i) :
 (Instr.lookup t (.map (some b)) (.int .i64 i) true).run Tryz.prog w = .ok (.tuple #[(M i).getD z, .bool (M i).isSome]) w := by
 obtain ⟨D, h, hM⟩ := h
 obtain ⟨v, ps, hrun, hv⟩ := h.look_ok intKeyed ht hz (zd := .held z) (zp := []) rfl (keyInt hi)
 obtain ⟨h1, h2⟩ := hM i hi
 rw [hrun, h1]
 have : v = (M i).getD z := by
  have hv : DataW.held v = D.atKey (.int .i64 i) (.held z) := congrArg Prod.fst (Option.some.inj hv)
  cases hm : M i with
  | none =>
   rw [hm] at h1
   rw [Maps.atKey_of_not_has h1] at hv
   injection hv with hv
  | some u =>
   rw [h2 u hm] at hv
   injection hv with hv
 rw [this]
def putI (M : Int → Option Value) (i : Int) (v : Value) : Int → Option Value := fun j => if j = i then some v else M j
def delI (M : Int → Option Value) (i : Int) : Int → Option Value := fun j => if j = i then none else M j
theorem IM.store {w : World} {b n : Nat} {M : Int → Option Value} (h : IM w b n M) {t e : TypeId} (ht : Tryz.prog.underlying t = some (.map 3 e)) (hn : n < maxLen) {i : Int} (hi : I64 i) (v : Value) :
 ∃ w', (Instr.mapUpdate t (.map (some b)) (.int .i64 i) v).run Tryz.prog w = .ok () w' ∧ IM w' b (n + 1) (putI M i v) ∧ w.mapTurned w' b := by
 obtain ⟨D, h, hM⟩ := h
 have hm := h.isMap
 obtain ⟨w', hrun, h', ht'⟩ := h.store intKeyed ht hn (val := v) (d := .held v) (ps := []) (keyInt hi) rfl
 refine ⟨w', hrun, ⟨_, h', fun j hj => ?_⟩, ht'⟩
 have hk : WideAt.IsKeyLit (.int .i64 i) := intKeyed.key (keyInt hi)
 by_cases hji : j = i
 ·subst hji
  refine ⟨by rw [Maps.has_put_same hm hk]; simp [putI], fun u hu z => ?_⟩
  rw [Maps.atKey_put_same hm hk]
  simp [putI] at hu
  rw [hu]
 ·have hne : (Lit.int .i64 j) ≠ Lit.int .i64 i := fun e => by injection e with _ e; exact hji e
  refine ⟨by rw [Maps.has_put_other hne]; simp only [putI, if_neg hji]; exact (hM j hj).1, fun u hu z => ?_⟩
  rw [Maps.atKey_put_other hne]
  simp only [putI, if_neg hji] at hu
  exact (hM j hj).2 u hu z
theorem IM.drop {w : World} {b n : Nat} {M : Int → Option Value} (h : IM w b n M) {t e : TypeId} (ht : Tryz.prog.underlying t = some (.map 3 e)) {i : Int} (hi : I64 i) (ty : TypeId) :
 ∃ w', (Builtin.delete_ #[t, 3] ty #[.map (some b), .int .i64 i]).run Tryz.prog w = .ok (.tuple #[]) w' ∧ IM w' b n (delI M i) ∧ w.mapTurned w' b := by
 obtain ⟨D, h, hM⟩ := h
 obtain ⟨w', hrun, h', ht'⟩ := h.drop intKeyed ht (keyInt hi) ty
 refine ⟨w', hrun, ⟨_, h', fun j hj => ?_⟩, ht'⟩
 by_cases hji : j = i
 ·subst hji
  exact ⟨by rw [Maps.has_del_same]; simp [delI], fun u hu => by simp [delI] at hu⟩
 ·have hne : (Lit.int .i64 j) ≠ Lit.int .i64 i := fun e => by injection e with _ e; exact hji e
  refine ⟨by rw [Maps.has_del_other hne]; simp only [delI, if_neg hji]; exact (hM j hj).1, fun u hu z => ?_⟩
  rw [Maps.atKey_del_other hne]
  simp only [delI, if_neg hji] at hu
  exact (hM j hj).2 u hu z
theorem turned_block {w w' : World} {b : Nat} (h : w.mapTurned w' b) (c : Nat) (hc : c ≠ b) : w'.heap[c]? = w.heap[c]? := by
 obtain ⟨es, clock, es', clock', hb, rfl⟩ := h
 exact Go.ChangeMaps.heap_setBlock_other hb _ hc
theorem Below.turned {B : Nat} {W w w' : World} {b : Nat} (h : Below B W w) (ht : w.mapTurned w' b) (hb : B ≤ b) : Below B W w' :=
 h.grown ht.grown (by obtain ⟨es, clock, _, _, hh, _⟩ := ht; have := heap_lt hh; omega) fun k hk => by cases hk; exact hb
end Go.Proofs.YtibcpdmeigdgpaaGreatDoor
namespace Go.Proofs.YtibcpdmeigdgpaaGreatDoor
open Go.RowKit
def IX (w : World) (b n : Nat) (M : Int → Option Value) : Prop :=
 ∃ D : DataW Value, w.ownsMap Tryz.prog 3 heldV b n D ∧ Maps.Tidy D ∧ Maps.size D = n ∧ ∀ i : Int, I64 i → Maps.has D (.int .i64 i) = (M i).isSome ∧ ∀ v, M i = some v → ∀ z, D.atKey (.int .i64 i) z = .held v
theorem IX.im {w : World} {b n : Nat} {M : Int → Option Value} (h : IX w b n M) : IM w b n M := by
 obtain ⟨D, h1, _, _, h2⟩ := h
 exact ⟨D, h1, h2⟩
theorem IX.made (w : World) : IX (w.alloc (.map #[] 0)) w.heap.size 0 (fun _ => none) :=
 ⟨.map [], World.ownsMap_made w _ _ _, ⟨[], rfl, List.Pairwise.nil⟩, rfl, fun i _ => ⟨rfl, fun v h => by cases h⟩⟩
theorem IX.keep {w w' : World} {b n : Nat} {M : Int → Option Value} (h : IX w b n M) (hb : w'.heap[b]? = w.heap[b]?) : IX w' b n M := by
 obtain ⟨D, ⟨es, clock, hh, r⟩, hT, hs, hM⟩ := h
 exact ⟨D, ⟨es, clock, hb.trans hh, r⟩, hT, hs, hM⟩
theorem IX.len {w : World} {b n : Nat} {M : Int → Option Value} (h : IX w b n M) {t e : TypeId} (ht : Tryz.prog.underlying t = some (.map 3 e)) (ty : TypeId) : (Builtin.len_ #[t] ty #[.map (some b)]).run Tryz.prog w = .ok (.int .i64 (n : Int)) w := by
 obtain ⟨D, h1, _, hs, _⟩ := h
 rw [h1.len ht ty, hs]
theorem IX.store {w : World} {b n : Nat} {M : Int → Option Value} (h : IX w b n M) {t e : TypeId} (ht : Tryz.prog.underlying t = some (.map 3 e)) (hn : n < maxLen) {i : Int} (hi : I64 i) (hno : M i = none) (v : Value) :
 ∃ w', (Instr.mapUpdate t (.map (some b)) (.int .i64 i) v).run Tryz.prog w = .ok () w' ∧ IX w' b (n + 1) (putI M i v) ∧ w.mapTurned w' b := by
 obtain ⟨D, h, hT, hs, hM⟩ := h
 have hm := h.isMap
 obtain ⟨w', hrun, h', ht'⟩ := h.store intKeyed ht hn (val := v) (d := .held v) (ps := []) (keyInt hi) rfl
 have hk : WideAt.IsKeyLit (.int .i64 i) := intKeyed.key (keyInt hi)
 refine ⟨w', hrun, ⟨_, h', hT.put hk _, ?_, fun j hj => ?_⟩, ht'⟩
 ·have hh : Maps.has D (.int .i64 i) = false := by rw [(hM i hi).1, hno]; rfl
  rw [Maps.size_put hT, hh, hs]
  rfl
 ·by_cases hji : j = i
  ·subst hji
   refine ⟨by rw [Maps.has_put_same hm hk]; simp [putI], fun u hu z => ?_⟩
   rw [Maps.atKey_put_same hm hk]
   simp [putI] at hu
   rw [hu]
  ·have hne : (Lit.int .i64 j) ≠ Lit.int .i64 i := fun e => by injection e with _ e; exact hji e
   refine ⟨by rw [Maps.has_put_other hne]; simp only [putI, if_neg hji]; exact (hM j hj).1, fun u hu z => ?_⟩
   rw [Maps.atKey_put_other hne]
   simp only [putI, if_neg hji] at hu
   exact (hM j hj).2 u hu z
def slotM (vs : List Int) : Int → Option Value := fun n => (plN vs n 0).map fun i => Value.int .i64 (i : Int)
theorem slotM_put {vs : List Int} {n : Int} (h : n ∉ vs) : putI (slotM vs) n (.int .i64 (vs.length : Int)) = slotM (vs ++ [n]) := by
 funext j
 unfold putI slotM
 rw [plN_snoc vs n j 0 h]
 by_cases hj : j = n
 ·rw [if_pos hj, if_pos hj]; simp
 ·rw [if_neg hj, if_neg hj]
end Go.Proofs.YtibcpdmeigdgpaaGreatDoor
