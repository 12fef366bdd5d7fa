/- The walk through coneyref11.Encode. Maps from integers to values, as the call itself made them: what is at a key, by a function. A map from integers, with the number of its entries. Rows of structs of one's own: append(s, make([]T, k)...), s[:k], clear(s[k:]), s[i] = x. -/
import Derived.Test.YtlgeepjlnjlgdaaDoorEK
import Derived.Test.YtlgeepjlnjlgdaaDoorED
import Derived.Test.YtlgeepjlnjlgdaaDoorEA
import Derived.WalkKit
import Derived.Lib.Hide
import Derived.Below
import Derived.Maps.Own
import Derived.Maps.OwnSet
import Derived.Maps.Views
import Derived.Test.YtlgeepjlnjlgdaaDoorEH
import Derived.Lib.AppendZerosOnto
import Derived.Laws.IdiomCopy
namespace Go.Proofs.YtlgeepjlnjlgdaaDoor
open Go.RowKit

theorem codeG_len : ∀ (gs : List T) (r : List Ins × List Int), (∀ g ∈ gs, g.kinds) → (codeG gs r).1.length = r.1.length + gs.length + nodesL gs ∧ (codeG gs r).2.length ≤ r.2.length + nodesL gs
  | [], r, _ => ⟨by simp [codeG, nodesL], by simp [codeG, nodesL]⟩
  | g :: gs, r, h => by
    obtain ⟨j1, j2⟩ := codeT_len g (h g (by simp)) r.2
    obtain ⟨i1, i2⟩ := codeG_len gs (r.1 ++ [⟨7, 0, ⟨#[]⟩⟩] ++ (codeT g r.2).1, (codeT g r.2).2) fun x hx => h x (by simp [hx])
    have e : codeG (g :: gs) r = codeG gs (r.1 ++ [⟨7, 0, ⟨#[]⟩⟩] ++ (codeT g r.2).1, (codeT g r.2).2) := rfl
    rw [e]
    simp only [List.length_append, List.length_cons, List.length_nil, nodesL, List.map_cons, List.sum_cons] at i1 i2 j1 j2 ⊢
    exact ⟨by omega, by omega⟩
/-- A row of terms stands where instructions are laid down. -/
theorem TL.kp {w w' : World} {B B' : Nat} {S P : Nat → Prop} {v : Value} {l : List T} {qs : List Q6} (h : TL w B S P v l qs) (hk : Kp B' w w') : TL w' B S P v l qs :=
  ⟨h.len, hk.own h.own (by decide), fun i h1 h2 => hk.tp (h.tp i h1 h2), fun b hP => ⟨(h.lo b hP).1, Nat.lt_of_lt_of_le (h.lo b hP).2 hk.size⟩, h.off, h.NB⟩
def EncP (th : T) (gs : List T) (w : World) (e : Ending) (w' : World) : Prop := ∃ lv : Value, e = .returned lv ∧ IRw w' w.heap.size lv (encN th gs) ∧ Kp w.heap.size w w'
theorem IRw.all {w : World} {B : Nat} {v : Value} {l : List Ins} (h : IRw w B v l) : ∃ A c, v = .slice A l.length c ∧ l.length ≤ c ∧ (A = none → c = 0) ∧ (0 < l.length → ∃ b off, A = some ⟨b, off, none⟩ ∧ b < w.heap.size ∧ ∀ j u, (insCells l)[j]? = some u → w.cell? ⟨b, off + j, none⟩ = some u) := by
  obtain ⟨A, c, rfl, hc, hA, _, hx⟩ := own_open h
  refine ⟨A, c, rfl, hc, hA, fun h0 => ?_⟩
  obtain ⟨g, cur, rfl, _, hh, hcur⟩ := hx h0
  refine ⟨g, 0, rfl, heap_lt hh, fun j u hu => ?_⟩
  have hj : j < l.length * 3 := by
    rcases Nat.lt_or_ge j (insCells l).length with h1 | h1
    · rw [insCells_length] at h1; omega
    · rw [List.getElem?_eq_none h1] at hu; cases hu
  rw [Nat.zero_add, cell_of_row w g j _ _ _ hh, hcur j hj, hu]
set_option maxRecDepth 100000 in
set_option maxHeartbeats 8000000 in
theorem rencode_any {th : T} {gs : List T} {w : World} {S S' P : Nat → Prop} {B' : Nat} {hv gv : Value} {qs : List Q6} (hok : th.ok) (hgok : ∀ g ∈ gs, g.ok) (hth : TP w S th hv) (hgs : TL w B' S' P gv gs qs) (hfew : nodesL gs ≤ 7000) (hfew2 : gs.length ≤ 7000) :
    Calls Tryd.prog 7 #[hv, gv] w fun e w' => EncP th gs w e w' := by
  obtain ⟨q0, q1, q2, q3, q4, q5, rfl⟩ := hth.agg
  obtain ⟨A, c, rfl, hc, hA, hx⟩ := hgs.all
  have HTH := Lib.hid hth
  have HGS := Lib.hid hgs
  have HOK := Lib.hid hok
  have HGO := Lib.hid hgok
  have hn1 : th.nodes ≤ 4000 := hok.2
  have BX := Lib.hid (belA (Below.refl w.heap.size w) (Obj.cells #[.int .i64 q0, .int .i64 q1, .string q2, .slice q3 q4 q5] 24))
  have KX := Lib.hid (Kp.of BX.out (Nat.le_refl _))
  have C0 := Lib.hid (code_any th hok w.heap.size [] [] (.slice none 0 0) (.slice none 0 0) _ _ S (HTH.out.below BX.out) (World.ownsRow_nil _ _ _ _) (IRow.nil _) (by simp) (by simp; omega) (by simp; omega))
  obtain ⟨r0, hr0⟩ : ∃ r0, r0 = codeT th [] := ⟨_, rfl⟩
  have HR0 := Lib.hid hr0
  have HRL := Lib.hid (show r0.1.length ≤ 4000 ∧ r0.2.length ≤ 4000 by
    obtain ⟨j1, j2⟩ := codeT_len th hok.1.kinds []
    rw [hr0]
    simp at j2
    exact ⟨by omega, by omega⟩)
  clear hth hgs hok hgok hx hr0
  go_enter Tryd.func7, Tryd.ntmps7
  go_wp2_with fail
  refine C0.out.mono ?_
  rintro e w1 ⟨ov, vv, rfl, ho, hv, hk⟩
  have O1 := Lib.hid (show IRw w1 w.heap.size ov r0.1 by rw [HR0.out]; simpa using ho)
  have V1 := Lib.hid (show IRow w1 vv r0.2 by rw [HR0.out]; exact hv)
  have K1 := Lib.hid (KX.out.trans hk)
  clear ho hv hk C0
  go_wp2_with fail
  go_loopw [5, 6, 7] (fun oq vq iv wr => ∃ i : Nat, iv = .int .i64 (i : Int) ∧ i ≤ gs.length ∧ IRw wr w.heap.size oq (codeG (gs.take i) r0).1 ∧ IRow wr vq (codeG (gs.take i) r0).2 ∧ Kp w.heap.size w wr) (fun _ _ iv _ => gs.length - (intOf iv).toNat)
  case atStart => exact ⟨0, rfl, Nat.zero_le _, O1.out, V1.out, K1.out⟩
  case round =>
    clear O1 V1 K1
    obtain ⟨i, rfl, hi, ho2, hv2, hk2⟩ := hrel
    have HLen := Lib.hid (show (codeG (gs.take i) r0).1.length ≤ 19000 ∧ (codeG (gs.take i) r0).2.length ≤ 19000 by
      obtain ⟨j1, j2⟩ := codeG_len (gs.take i) r0 fun x hx => (HGO.out x (List.mem_of_mem_take hx)).1.kinds
      have h1 : (gs.take i).length ≤ gs.length := by rw [List.length_take]; omega
      have h2 : nodesL gs = nodesL (gs.take i) + nodesL (gs.drop i) := by rw [← nodesL_app, List.take_append_drop]
      have h3 := HRL.out
      omega)
    obtain ⟨r2, hr2⟩ : ∃ r2, r2 = codeG (gs.take i) r0 := ⟨_, rfl⟩
    rw [← hr2] at ho2 hv2 HLen
    have HR2 := Lib.hid hr2
    have O2 := Lib.hid ho2
    have V2 := Lib.hid hv2
    have K2 := Lib.hid hk2
    have hw2 := hk2.size
    have hL1 : r2.1.length ≤ 19000 := HLen.out.1
    have hL2 : r2.2.length ≤ 19000 := HLen.out.2
    obtain ⟨AV, cv, rfl, _, _, _⟩ := hv2.open_
    clear ho2 hv2 hk2 hr2
    by_cases hig : i < gs.length
    · have hig' : (i : Int) < (gs.length : Int) := by omega
      go_wp2_with (at_builtin; go_must (refine wpList_append_at _ rfl _ _ _ rfl elIns w.heap.size _ r2.1.length (insCells r2.1) rfl (O2.out.alloc _) (some ⟨wr.heap.size, 0, none⟩) 1 1 (insCells [⟨7, 0, ⟨#[]⟩⟩]) rfl (fun h => by cases h) (Nat.le_refl _) rfl (fun _ => ⟨_, 0, rfl, fun j u hu => ?_⟩) (insCells_small _) (by omega) (by unfold maxLen; omega) (by simp; omega) ?_))
      · simpa [insCells, Ins.cells] using hu
      intro v3 w3 hown3 hg3 hat3
      obtain ⟨l3, hl3⟩ : ∃ l3, l3 = r2.1 ++ [⟨7, 0, ⟨#[]⟩⟩] := ⟨_, rfl⟩
      have HL3 := Lib.hid hl3
      have hl3n : l3.length = r2.1.length + 1 := by rw [hl3]; simp
      have O3 := Lib.hid (show IRw w3 w.heap.size v3 l3 by
        unfold IRw
        rw [hl3, ← insCells_app, List.length_append]
        exact hown3)
      have K3 := Lib.hid ((K2.out.trans (Kp.of ((Below.refl _ _).alloc (Nat.le_refl wr.heap.size) (Obj.cells #[.int .i64 7, .int .i64 0, .string ⟨#[]⟩] 50)) hw2)).trans (Kp.grown hg3 (O2.out.alloc _) (by simp; omega)))
      have V3 := Lib.hid (((Kp.of ((Below.refl _ _).alloc (Nat.le_refl wr.heap.size) (Obj.cells #[.int .i64 7, .int .i64 0, .string ⟨#[]⟩] 50)) hw2).trans (Kp.grown hg3 (O2.out.alloc _) (by simp; omega))).irow V2.out)
      obtain ⟨g, q, hA', _, hgl, _, d0, d1, d2, d3, ht⟩ := (HGS.out.kp K3.out).at_ rfl hig
      subst hA'
      have hgi := HGO.out _ (List.getElem_mem hig)
      obtain ⟨x, hxE⟩ : ∃ x, x = gs[i]'hig := ⟨_, rfl⟩
      rw [← hxE] at ht hgi
      have HXE := Lib.hid hxE
      have hgn : x.nodes ≤ 4000 := hgi.2
      have CI := Lib.hid (code_any x hgi w.heap.size l3 r2.2 v3 (.slice AV r2.2.length cv) q.val w3 _ ht O3.out V3.out (by have := K3.out.size; omega) (by omega) (by omega))
      clear hown3 hg3 hat3 ht hgi hl3 hxE
      go_wp2_with fail
      refine CI.out.mono ?_
      rintro e w4 ⟨ov4, vv4, rfl, ho4, hv4, hk4⟩
      have E4 := Lib.hid (show codeG (gs.take (i + 1)) r0 = (l3 ++ (codeT x r2.2).1, (codeT x r2.2).2) by
        rw [List.take_succ_eq_append_getElem hig, codeG_snoc, ← HR2.out, ← HXE.out, HL3.out])
      have O4 := Lib.hid (show IRw w4 w.heap.size ov4 (codeG (gs.take (i + 1)) r0).1 by rw [E4.out]; exact ho4)
      have V4 := Lib.hid (show IRow w4 vv4 (codeG (gs.take (i + 1)) r0).2 by rw [E4.out]; exact hv4)
      have K4 := Lib.hid (K3.out.trans hk4)
      clear ho4 hv4 hk4 CI
      go_wp2_with fail
      go_roundw
      case rel => exact ⟨i + 1, by go_num, hig, O4.out, V4.out, K4.out⟩
      case measure => simp [intOf]; omega
    · have hig' : ¬ (i : Int) < (gs.length : Int) := by omega
      have hin : i = gs.length := by omega
      have E := Lib.hid (show r2 = codeG gs (codeT th []) by rw [HR2.out, hin, List.take_length, HR0.out])
      obtain ⟨AO, co, rfl, hco, hAO, hxo⟩ := O2.out.all
      have HXO := Lib.hid hxo
      have F0 := Lib.hid (show IRw (wr.alloc (Obj.cells #[.int .i64 1, .int .i64 (r2.2.length : Int), .string ⟨#[]⟩] 50)) w.heap.size (.slice (some ⟨wr.heap.size, 0, none⟩) 1 1) [⟨1, (r2.2.length : Int), ⟨#[]⟩⟩] from
        ⟨rfl, .inr ⟨_, 1, _, rfl, hw2, heap_alloc_new _ _, Nat.le_refl _, by simp [maxLen], rfl, by simp [insCells, Ins.cells]⟩⟩)
      have HU := Lib.hid (show 0 < r2.1.length → ∃ b off, AO = some ⟨b, off, none⟩ ∧ ∀ j u, (insCells r2.1)[j]? = some u → (wr.alloc (Obj.cells #[.int .i64 1, .int .i64 (r2.2.length : Int), .string ⟨#[]⟩] 50)).cell? ⟨b, off + j, none⟩ = some u from fun h0 => by
        obtain ⟨b, off, e, hb, h⟩ := HXO.out h0
        exact ⟨b, off, e, fun j u hu => by rw [World.cell?_alloc_lt _ _ _ hb]; exact h j u hu⟩)
      clear hxo hin
      go_wp2_with (first
        | (at_builtin; go_must (refine wpList_append_at _ rfl (.tmp 38) (.tmp 39) _ rfl elIns w.heap.size _ 1 (insCells [⟨1, (r2.2.length : Int), ⟨#[]⟩⟩]) rfl F0.out AO r2.1.length co (insCells r2.1) rfl hAO hco (by rw [insCells_length, Nat.mul_comm]) HU.out (insCells_small _) (by omega) (by unfold maxLen; omega) (by simp; omega) ?_)))
      intro v5 w5 hown5 hg5 hat5
      obtain ⟨l5, hl5⟩ : ∃ l5, l5 = [⟨1, (r2.2.length : Int), ⟨#[]⟩⟩] ++ r2.1 := ⟨_, rfl⟩
      have HL5 := Lib.hid hl5
      have hl5n : l5.length = 1 + r2.1.length := by rw [hl5]; simp; omega
      have O5 := Lib.hid (show IRw w5 w.heap.size v5 l5 by
        unfold IRw
        rw [hl5, ← insCells_app, List.length_append]
        exact hown5)
      have K5 := Lib.hid ((K2.out.trans (Kp.of ((Below.refl _ _).alloc (Nat.le_refl wr.heap.size) (Obj.cells #[.int .i64 1, .int .i64 (r2.2.length : Int), .string ⟨#[]⟩] 50)) hw2)).trans (Kp.grown hg5 F0.out (by simp; omega)))
      have hw5 := K5.out.size
      clear hown5 hg5 hat5 hl5
      go_wp2_with (at_builtin; go_must (refine wpList_append_at _ rfl _ _ _ rfl elIns w.heap.size _ l5.length (insCells l5) rfl (O5.out.alloc _) (some ⟨w5.heap.size, 0, none⟩) 1 1 (insCells [⟨8, 0, ⟨#[]⟩⟩]) rfl (fun h => by cases h) (Nat.le_refl _) rfl (fun _ => ⟨_, 0, rfl, fun j u hu => ?_⟩) (insCells_small _) (by omega) (by unfold maxLen; omega) (by simp; omega) ?_))
      · simpa [insCells, Ins.cells] using hu
      intro v6 w6 hown6 hg6 hat6
      have O6 := Lib.hid (show IRw w6 w.heap.size v6 (encN th gs) by
        have e : encN th gs = l5 ++ [⟨8, 0, ⟨#[]⟩⟩] := by rw [HL5.out, E.out]; rfl
        unfold IRw
        rw [e, ← insCells_app, List.length_append, hl5n]
        exact hown6)
      have K6 := Lib.hid ((K5.out.trans (Kp.of ((Below.refl _ _).alloc (Nat.le_refl w5.heap.size) (Obj.cells #[.int .i64 8, .int .i64 0, .string ⟨#[]⟩] 50)) hw5)).trans (Kp.grown hg6 (O5.out.alloc _) (by simp; omega)))
      clear hown6 hg6 hat6
      go_wp2_with fail
      go_ret
      exact ⟨_, rfl, O6.out, K6.out⟩
end Go.Proofs.YtlgeepjlnjlgdaaDoor
namespace Go.Proofs.YtlgeepjlnjlgdaaDoor
open Go.RowKit

theorem intKeyed : Go.Maps.Keyed Tryd.prog 3 := Go.Maps.int_keyed Tryd.underlying3
theorem keyInt {i : Int} (h : I64 i) : keyOf Tryd.prog 3 (.int .i64 i) = some (.int .i64 i) := by
  have h1 : (IntKind.i64.min ≤ i) := h.1
  have h2 : (i ≤ IntKind.i64.max) := h.2
  exact Go.Maps.keyOf_int_mk Tryd.underlying3 (by simp only [Lit.wf, decide_eq_true h1, decide_eq_true h2, Bool.and_self])
/-- An element is its own datum. -/
def heldV (v : Value) : Option (DataW Value × List MemPlace) := some (.held v, [])
/-- Block b holds a map of at most n entries: at the key i lies M i. -/
def IM (w : World) (b n : Nat) (M : Int → Option Value) : Prop :=
  ∃ D : DataW Value, w.ownsMap Tryd.prog 3 heldV b n D ∧ ∀ i : Int, I64 i → Maps.has D (.int .i64 i) = (M i).isSome ∧ ∀ v, M i = some v → ∀ z, D.atKey (.int .i64 i) z = .held v
theorem IM.made (w : World) : IM (w.alloc (.map #[] 0)) w.heap.size 0 (fun _ => none) :=
  ⟨.map [], World.ownsMap_made w _ _ _, fun i _ => ⟨rfl, fun v h => by cases h⟩⟩
theorem IM.keep {w w' : World} {b n : Nat} {M : Int → Option Value} (h : IM w b n M) (hb : w'.heap[b]? = w.heap[b]?) : IM w' b n M := by
  obtain ⟨D, ⟨es, clock, hh, r⟩, hM⟩ := h
  exact ⟨D, ⟨es, clock, hb.trans hh, r⟩, hM⟩
theorem IM.lt {w : World} {b n : Nat} {M : Int → Option Value} (h : IM w b n M) : b < w.heap.size := by
  obtain ⟨D, h, _⟩ := h
  exact h.lt
theorem IM.look {w : World} {b n : Nat} {M : Int → Option Value} (h : IM w b n M) {t e : TypeId} (ht : Tryd.prog.underlying t = some (.map 3 e)) {z : Value} (hz : (zeroValue e).run Tryd.prog w = .ok z w) {i : Int} (hi : I64 i) :
    (Instr.lookup t (.map (some b)) (.int .i64 i) true).run Tryd.prog w = .ok (.tuple #[(M i).getD z, .bool (M i).isSome]) w := by
  obtain ⟨D, h, hM⟩ := h
  obtain ⟨v, ps, hrun, hv⟩ := h.look_ok intKeyed ht hz (zd := .held z) (zp := []) rfl (keyInt hi)
  obtain ⟨h1, h2⟩ := hM i hi
  rw [hrun, h1]
  have : v = (M i).getD z := by
    have hv : DataW.held v = D.atKey (.int .i64 i) (.held z) := congrArg Prod.fst (Option.some.inj hv)
    cases hm : M i with
    | none =>
      rw [hm] at h1
      rw [Maps.atKey_of_not_has h1] at hv
      injection hv with hv
    | some u =>
      rw [h2 u hm] at hv
      injection hv with hv
  rw [this]
theorem IM.look1 {w : World} {b n : Nat} {M : Int → Option Value} (h : IM w b n M) {t e : TypeId} (ht : Tryd.prog.underlying t = some (.map 3 e)) {z : Value} (hz : (zeroValue e).run Tryd.prog w = .ok z w) {i : Int} (hi : I64 i) :
    (Instr.lookup t (.map (some b)) (.int .i64 i) false).run Tryd.prog w = .ok ((M i).getD z) w := by
  obtain ⟨D, h, hM⟩ := h
  obtain ⟨v, ps, hrun, hv⟩ := h.lookup intKeyed ht hz (zd := .held z) (zp := []) rfl (keyInt hi)
  obtain ⟨h1, h2⟩ := hM i hi
  rw [hrun]
  have : v = (M i).getD z := by
    have hv : DataW.held v = D.atKey (.int .i64 i) (.held z) := congrArg Prod.fst (Option.some.inj hv)
    cases hm : M i with
    | none =>
      rw [hm] at h1
      rw [Maps.atKey_of_not_has h1] at hv
      injection hv with hv
    | some u =>
      rw [h2 u hm] at hv
      injection hv with hv
  rw [this]
def putI (M : Int → Option Value) (i : Int) (v : Value) : Int → Option Value := fun j => if j = i then some v else M j
def delI (M : Int → Option Value) (i : Int) : Int → Option Value := fun j => if j = i then none else M j
theorem IM.store {w : World} {b n : Nat} {M : Int → Option Value} (h : IM w b n M) {t e : TypeId} (ht : Tryd.prog.underlying t = some (.map 3 e)) (hn : n < maxLen) {i : Int} (hi : I64 i) (v : Value) :
    ∃ w', (Instr.mapUpdate t (.map (some b)) (.int .i64 i) v).run Tryd.prog w = .ok () w' ∧ IM w' b (n + 1) (putI M i v) ∧ w.mapTurned w' b := by
  obtain ⟨D, h, hM⟩ := h
  have hm := h.isMap
  obtain ⟨w', hrun, h', ht'⟩ := h.store intKeyed ht hn (val := v) (d := .held v) (ps := []) (keyInt hi) rfl
  refine ⟨w', hrun, ⟨_, h', fun j hj => ?_⟩, ht'⟩
  have hk : WideAt.IsKeyLit (.int .i64 i) := intKeyed.key (keyInt hi)
  by_cases hji : j = i
  · subst hji
    refine ⟨by rw [Maps.has_put_same hm hk]; simp [putI], fun u hu z => ?_⟩
    rw [Maps.atKey_put_same hm hk]
    simp [putI] at hu
    rw [hu]
  · have hne : (Lit.int .i64 j) ≠ Lit.int .i64 i := fun e => by injection e with _ e; exact hji e
    refine ⟨by rw [Maps.has_put_other hne]; simp only [putI, if_neg hji]; exact (hM j hj).1, fun u hu z => ?_⟩
    rw [Maps.atKey_put_other hne]
    simp only [putI, if_neg hji] at hu
    exact (hM j hj).2 u hu z
theorem IM.drop {w : World} {b n : Nat} {M : Int → Option Value} (h : IM w b n M) {t e : TypeId} (ht : Tryd.prog.underlying t = some (.map 3 e)) {i : Int} (hi : I64 i) (ty : TypeId) :
    ∃ w', (Builtin.delete_ #[t, 3] ty #[.map (some b), .int .i64 i]).run Tryd.prog w = .ok (.tuple #[]) w' ∧ IM w' b n (delI M i) ∧ w.mapTurned w' b := by
  obtain ⟨D, h, hM⟩ := h
  obtain ⟨w', hrun, h', ht'⟩ := h.drop intKeyed ht (keyInt hi) ty
  refine ⟨w', hrun, ⟨_, h', fun j hj => ?_⟩, ht'⟩
  by_cases hji : j = i
  · subst hji
    exact ⟨by rw [Maps.has_del_same]; simp [delI], fun u hu => by simp [delI] at hu⟩
  · have hne : (Lit.int .i64 j) ≠ Lit.int .i64 i := fun e => by injection e with _ e; exact hji e
    refine ⟨by rw [Maps.has_del_other hne]; simp only [delI, if_neg hji]; exact (hM j hj).1, fun u hu z => ?_⟩
    rw [Maps.atKey_del_other hne]
    simp only [delI, if_neg hji] at hu
    exact (hM j hj).2 u hu z
/-- What a store into a map leaves alone: every other block. -/
theorem turned_block {w w' : World} {b : Nat} (h : w.mapTurned w' b) (c : Nat) (hc : c ≠ b) : w'.heap[c]? = w.heap[c]? := by
  obtain ⟨es, clock, es', clock', hb, rfl⟩ := h
  exact Go.ChangeMaps.heap_setBlock_other hb _ hc
theorem turned_size {w w' : World} {b : Nat} (h : w.mapTurned w' b) : w'.heap.size = w.heap.size := by
  obtain ⟨es, clock, es', clock', hb, rfl⟩ := h
  simp [Go.ChangeMaps.setBlock]
theorem Below.turned {B : Nat} {W w w' : World} {b : Nat} (h : Below B W w) (ht : w.mapTurned w' b) (hb : B ≤ b) : Below B W w' :=
  h.grown ht.grown (by obtain ⟨es, clock, _, _, hh, _⟩ := ht; have := heap_lt hh; omega) fun k hk => by cases hk; exact hb
end Go.Proofs.YtlgeepjlnjlgdaaDoor
namespace Go.Proofs.YtlgeepjlnjlgdaaDoor
open Go.RowKit

/-- Block b holds a map of n entries: at the key i lies M i. -/
def IX (w : World) (b n : Nat) (M : Int → Option Value) : Prop :=
  ∃ D : DataW Value, w.ownsMap Tryd.prog 3 heldV b n D ∧ Maps.Tidy D ∧ Maps.size D = n ∧ ∀ i : Int, I64 i → Maps.has D (.int .i64 i) = (M i).isSome ∧ ∀ v, M i = some v → ∀ z, D.atKey (.int .i64 i) z = .held v
theorem IX.im {w : World} {b n : Nat} {M : Int → Option Value} (h : IX w b n M) : IM w b n M := by
  obtain ⟨D, h1, _, _, h2⟩ := h
  exact ⟨D, h1, h2⟩
theorem IX.made (w : World) : IX (w.alloc (.map #[] 0)) w.heap.size 0 (fun _ => none) :=
  ⟨.map [], World.ownsMap_made w _ _ _, ⟨[], rfl, List.Pairwise.nil⟩, rfl, fun i _ => ⟨rfl, fun v h => by cases h⟩⟩
theorem IX.keep {w w' : World} {b n : Nat} {M : Int → Option Value} (h : IX w b n M) (hb : w'.heap[b]? = w.heap[b]?) : IX w' b n M := by
  obtain ⟨D, ⟨es, clock, hh, r⟩, hT, hs, hM⟩ := h
  exact ⟨D, ⟨es, clock, hb.trans hh, r⟩, hT, hs, hM⟩
theorem IX.len {w : World} {b n : Nat} {M : Int → Option Value} (h : IX w b n M) {t e : TypeId} (ht : Tryd.prog.underlying t = some (.map 3 e)) (ty : TypeId) : (Builtin.len_ #[t] ty #[.map (some b)]).run Tryd.prog w = .ok (.int .i64 (n : Int)) w := by
  obtain ⟨D, h1, _, hs, _⟩ := h
  rw [h1.len ht ty, hs]
/-- A key that is not there is stored. -/
theorem IX.store {w : World} {b n : Nat} {M : Int → Option Value} (h : IX w b n M) {t e : TypeId} (ht : Tryd.prog.underlying t = some (.map 3 e)) (hn : n < maxLen) {i : Int} (hi : I64 i) (hno : M i = none) (v : Value) :
    ∃ w', (Instr.mapUpdate t (.map (some b)) (.int .i64 i) v).run Tryd.prog w = .ok () w' ∧ IX w' b (n + 1) (putI M i v) ∧ w.mapTurned w' b := by
  obtain ⟨D, h, hT, hs, hM⟩ := h
  have hm := h.isMap
  obtain ⟨w', hrun, h', ht'⟩ := h.store intKeyed ht hn (val := v) (d := .held v) (ps := []) (keyInt hi) rfl
  have hk : WideAt.IsKeyLit (.int .i64 i) := intKeyed.key (keyInt hi)
  refine ⟨w', hrun, ⟨_, h', hT.put hk _, ?_, fun j hj => ?_⟩, ht'⟩
  · have hh : Maps.has D (.int .i64 i) = false := by rw [(hM i hi).1, hno]; rfl
    rw [Maps.size_put hT, hh, hs]
    rfl
  · by_cases hji : j = i
    · subst hji
      refine ⟨by rw [Maps.has_put_same hm hk]; simp [putI], fun u hu z => ?_⟩
      rw [Maps.atKey_put_same hm hk]
      simp [putI] at hu
      rw [hu]
    · have hne : (Lit.int .i64 j) ≠ Lit.int .i64 i := fun e => by injection e with _ e; exact hji e
      refine ⟨by rw [Maps.has_put_other hne]; simp only [putI, if_neg hji]; exact (hM j hj).1, fun u hu z => ?_⟩
      rw [Maps.atKey_put_other hne]
      simp only [putI, if_neg hji] at hu
      exact (hM j hj).2 u hu z
/-- The slots of variables. -/
def slotM (vs : List Int) : Int → Option Value := fun n => (plN vs n 0).map fun i => Value.int .i64 (i : Int)
theorem slotM_put {vs : List Int} {n : Int} (h : n ∉ vs) : putI (slotM vs) n (.int .i64 (vs.length : Int)) = slotM (vs ++ [n]) := by
  funext j
  unfold putI slotM
  rw [plN_snoc vs n j 0 h]
  by_cases hj : j = n
  · rw [if_pos hj, if_pos hj]; simp
  · rw [if_neg hj, if_neg hj]
end Go.Proofs.YtlgeepjlnjlgdaaDoor
namespace Go.Proofs.YtlgeepjlnjlgdaaDoor
open Go.RowKit

section
variable {P : Program}
theorem run_append_room_zeros (w : World) (t tn ty e : TypeId) (i : TypeInfo) (z : Value) (kq kn : IntKind) (ht : P.underlying t = some (.slice e)) (htn : P.underlying tn = some (.int kn)) (hi : P.info? e = some i) (hz : i.zero = some z)
    (g sLen sCap : Nat) (cur : Array Value) (hg : w.heap[g]? = some (.cells cur e (0, 0))) (k : Nat) (hs : 0 < i.size) (hzs : z.cells.size = i.size) (h1 : ∀ u ∈ (Builtin.zeroCells z.cells k).toList, u.oneCell' = true)
    (hroom : sLen + k ≤ sCap) (h63 : (k : Int) ≤ 9223372036854775807) (h48 : k * i.bytes ≤ 281474976710656) (hfit : (sLen + k) * i.size ≤ cur.size) :
    (Builtin.append_ #[t, tn] ty #[.slice (some ⟨g, 0, none⟩) sLen sCap, .int kq k]).run P w =
      .ok (.slice (some ⟨g, 0, none⟩) (sLen + k) sCap) (w.setRow g (cur.toList.take (sLen * i.size) ++ (Builtin.zeroCells z.cells k).toList ++ cur.toList.drop (sLen * i.size + k * i.size)).toArray) := by
  have hw : IntKind.i64.wrap (k : Int) = k := by rw [IntKind.wrap_i64]; omega
  have hneg : ¬ ((k : Int) < 0) := by omega
  have h48i : ¬ (281474976710656 < (k : Int) * (i.bytes : Int)) := by
    rw [← Int.natCast_mul]
    omega
  have hl : (Builtin.zeroCells z.cells k).toList.length = k * i.size := by rw [Array.length_toList, size_zeroCells, hzs]
  have hst := run_storeCells_at P g (sLen * i.size) e (Builtin.zeroCells z.cells k).toList 0 cur w hg (by rw [hl, Nat.add_zero, ← Nat.add_mul]; exact hfit) h1
  simp only [Nat.add_zero, hl] at hst
  rcases Nat.eq_zero_or_pos k with h0 | h0
  · subst h0
    have hzz : Builtin.zeroCells z.cells 0 = #[] := by simp [Builtin.zeroCells]
    rw [hzz] at hst ⊢
    have hw0 : IntKind.i64.wrap (0 : Int) = 0 := by rw [IntKind.wrap_i64]; rfl
    simp only [Nat.add_zero] at hroom
    simp [Builtin.append_, run_underlying ht, run_underlying htn, sizeOf, typeInfo, hi, asInt, asIntOf, hw0, hroom, Addr.add_lit, storeCells, setRow_self w g cur e (0, 0) hg]
  · have hns : ¬ (k * i.size = 0) := Nat.mul_ne_zero (by omega) (by omega)
    simp [Builtin.append_, run_underlying ht, run_underlying htn, sizeOf, typeInfo, zeroValue, hi, hz, asInt, asIntOf, hw, hneg, hns, h48i, hroom, Addr.add_lit, hst]
/-- append(s, make([]T, k)...), s a row of one's own. -/
theorem run_append_own_zeros (w : World) {t tn ty e : TypeId} {z : Value} {size bytes : Nat} {kq kn : IntKind} (E : El P t e z size bytes) (htn : P.underlying tn = some (.int kn)) (hz1 : ∀ k, ∀ u ∈ (Builtin.zeroCells z.cells k).toList, u.oneCell' = true)
    {base : Nat} {v : Value} {n : Nat} {xs : List Value} (hown : w.ownsRow base e size v n xs) (k : Nat) (h63 : n + k ≤ maxLen) (hbytes : (n + k) * bytes ≤ 140737488355328) (hbase : base ≤ w.heap.size) :
    ∃ v' w', (Builtin.append_ #[t, tn] ty #[v, .int kq k]).run P w = .ok v' w' ∧ w'.ownsRow base e size v' (n + k) (xs ++ (Builtin.zeroCells z.cells k).toList) ∧ w.grownBy w' v.ownBlock := by
  obtain ⟨i, hi, hz, hsz, hby⟩ := E.hi
  have ht := E.ht
  have hzs := E.hzs
  have hpos := E.pos
  subst hsz
  subst hby
  have h63' : n + k ≤ 9223372036854775807 := by simp only [maxLen] at h63; omega
  have hkb : k * i.bytes ≤ 281474976710656 := by
    have : k * i.bytes ≤ (n + k) * i.bytes := Nat.mul_le_mul_right _ (by omega)
    omega
  have hlen : (xs ++ (Builtin.zeroCells z.cells k).toList).length = (n + k) * i.size := by rw [List.length_append, hown.1, Array.length_toList, size_zeroCells, hzs, Nat.add_mul]
  have grown : ∀ (old : Nat), old < n + k → ∀ (row : Option Nat),
      (w.drew.alloc (.cells (xs.toArray ++ Builtin.zeroCells z.cells k ++ Builtin.zeroCells z.cells (grownCap w (n + k) old e - (n + k))) e)).ownsRow base e i.size
        (.slice (some ⟨w.heap.size, 0, none⟩) (n + k) (grownCap w (n + k) old e)) (n + k) (xs ++ (Builtin.zeroCells z.cells k).toList) ∧
      w.grownBy (w.drew.alloc (.cells (xs.toArray ++ Builtin.zeroCells z.cells k ++ Builtin.zeroCells z.cells (grownCap w (n + k) old e - (n + k))) e)) row := by
    intro old ho row
    have hge := grownCap_ge w (n + k) old e
    have hcm : grownCap w (n + k) old e ≤ maxLen := grownCap_le_maxLen w (n + k) old e h63
    refine ⟨⟨hlen, .inr ⟨w.heap.size, _, _, rfl, hbase, heap_alloc_new w.drew _, hge, hcm, ?_, ?_⟩⟩, ⟨rfl, rfl, rfl, by simp, fun k hk _ => Below.heap_alloc w.drew _ k hk⟩⟩
    · simp only [Array.size_append, List.size_toArray, size_zeroCells, hzs, hown.1, ← Nat.add_mul]
      congr 1
      omega
    · simp only [Array.toList_append, List.append_assoc]
      rw [← List.append_assoc, ← hlen]
      exact List.take_left
  rcases hown.2 with ⟨rfl, rfl⟩ | ⟨g, cap, cur, rfl, hbg, hg, hnc, hcm, hcs, htake⟩
  · have hx : xs = [] := List.eq_nil_of_length_eq_zero (by simpa using hown.1)
    subst hx
    by_cases hm : k = 0
    · subst hm
      have hzz : Builtin.zeroCells z.cells 0 = #[] := by simp [Builtin.zeroCells]
      rw [hzz]
      refine ⟨.slice none 0 0, w, ?_, World.ownsRow_nil w base e i.size, ⟨rfl, rfl, rfl, Nat.le_refl _, fun _ _ _ => rfl⟩⟩
      have hw : IntKind.i64.wrap (0 : Int) = 0 := by rw [IntKind.wrap_i64]; rfl
      simp [Builtin.append_, run_underlying ht, run_underlying htn, sizeOf, typeInfo, hi, asInt, asIntOf, hw]
    · have hr := Lib.run_append_grow_zeros (P := P) w t tn ty e i z kq kn ht htn hi hz none 0 0 [] (run_firstCells_none w.drew i.size 0 0 0) k (by omega) hpos (by omega) (by simp only [Nat.zero_add] at h63' ⊢; omega) hkb (by simp only [Nat.zero_add] at hbytes ⊢; exact growslice_fits (by omega) hbytes)
      have hgr := grown 0 (by omega) (Value.ownBlock (.slice none 0 0))
      simp only [Nat.zero_add] at hgr hr ⊢
      exact ⟨_, _, hr, hgr.1, hgr.2⟩
  · by_cases hroom : n + k ≤ cap
    · have hfit : (n + k) * i.size ≤ cur.size := by rw [hcs]; exact Nat.mul_le_mul_right _ hroom
      have hr := run_append_room_zeros (P := P) w t tn ty e i z kq kn ht htn hi hz g n cap cur hg k hpos hzs (hz1 k) hroom (by omega) hkb hfit
      refine ⟨_, _, hr, ⟨hlen, .inr ⟨g, cap, _, rfl, hbg, setRow_heap w g cur _ e _ hg, hroom, hcm, ?_, ?_⟩⟩, ⟨rfl, rfl, rfl, by simp, fun k _ hk => setRow_other w g k _ (fun e => hk (by simp [Value.ownBlock, e]))⟩⟩
      · have hzl : (Builtin.zeroCells z.cells k).size = k * i.size := by rw [size_zeroCells, hzs]
        rw [Nat.add_mul] at hfit
        simp only [List.size_toArray, List.length_append, List.length_take, List.length_drop, Array.length_toList, hzl]
        omega
      · rw [htake, ← hlen]
        exact List.take_left
    · have holds : ∀ j u, xs[j]? = some u → w.drew.cell? ((⟨g, 0, none⟩ : Addr).add j) = some u := hown.cells (g := g) rfl
      have hr := Lib.run_append_grow_zeros (P := P) w t tn ty e i z kq kn ht htn hi hz (some ⟨g, 0, none⟩) n cap xs (run_firstCells_some w.drew i.size n ⟨g, 0, none⟩ n cap xs hown.1 holds) k (by omega) hpos (by omega) (by omega) hkb (growslice_fits (by omega) hbytes)
      have hgr := grown cap (by omega) (Value.ownBlock (.slice (some ⟨g, 0, none⟩) n cap))
      exact ⟨_, _, hr, hgr.1, hgr.2⟩
/-- s[:k]. -/
theorem ownsRow_take {w : World} {base : Nat} {e : TypeId} {size : Nat} {A : Option Addr} {n c : Nat} {xs : List Value} (h : w.ownsRow base e size (.slice A n c) n xs) {k : Nat} (hk : k ≤ n) : w.ownsRow base e size (.slice A k c) k (xs.take (k * size)) := by
  obtain ⟨h0, h⟩ := h
  have hks : k * size ≤ n * size := Nat.mul_le_mul_right _ hk
  refine ⟨by rw [List.length_take, h0]; omega, ?_⟩
  rcases h with ⟨hv, hn⟩ | ⟨g, cap, cur, hv, hg, hh, hn, hm, hs, ht⟩
  · injection hv with e1 e2 e3
    subst e1; subst e3
    exact .inl ⟨by rw [show k = 0 by omega], by omega⟩
  · injection hv with e1 e2 e3
    subst e1; subst e3
    exact .inr ⟨g, c, cur, rfl, hg, hh, by omega, hm, hs, by rw [← ht, List.take_take, Nat.min_eq_left hks]⟩
/-- An element's cells, written one by one. -/
theorem setCells_block {g : Nat} {e : TypeId} {m : Nat × Nat} : ∀ (us : List Value) (o : Nat) (w : World) (cur : Array Value), w.heap[g]? = some (.cells cur e m) → o + us.length ≤ cur.size →
    (w.setCells g o us).heap[g]? = some (.cells (cur.toList.take o ++ us ++ cur.toList.drop (o + us.length)).toArray e m)
  | [], o, w, cur, h, _ => by
    show w.heap[g]? = _
    rw [h]
    simp [List.take_append_drop]
  | u :: us, o, w, cur, h, hl => by
    show ((w.setCell ⟨g, o, none⟩ u).setCells g (o + 1) us).heap[g]? = _
    have hlt : o < cur.size := by simp at hl; omega
    have h1 : (w.setCell ⟨g, o, none⟩ u).heap[g]? = some (.cells (cur.setIfInBounds o u) e m) := by
      simp [World.setCell, Array.getElem?_modify, h]
    rw [setCells_block us (o + 1) _ _ h1 (by simp at hl ⊢; omega)]
    congr 2
    apply Array.ext'
    simp only [List.length_cons, Array.toList_setIfInBounds]
    rw [show o + 1 + us.length = o + (us.length + 1) by omega]
    have ht : (cur.toList.set o u).take (o + 1) = cur.toList.take o ++ [u] := by
      rw [List.take_set, List.take_add_one, List.getElem?_eq_getElem (by simpa using hlt)]
      simp [List.length_take, Nat.min_eq_left (Nat.le_of_lt hlt)]
    have hd : (cur.toList.set o u).drop (o + (us.length + 1)) = cur.toList.drop (o + (us.length + 1)) := List.drop_set_of_lt (by omega)
    rw [ht, hd]
    simp
theorem setCells_other {g b : Nat} (hb : b ≠ g) : ∀ (us : List Value) (o : Nat) (w : World), (w.setCells g o us).heap[b]? = w.heap[b]?
  | [], _, _ => rfl
  | u :: us, o, w => (setCells_other hb us (o + 1) (w.setCell ⟨g, o, none⟩ u)).trans (Below.heap_setCell _ _ _ _ hb)
theorem setCells_size {g : Nat} : ∀ (us : List Value) (o : Nat) (w : World), (w.setCells g o us).heap.size = w.heap.size
  | [], _, _ => rfl
  | u :: us, o, w => (setCells_size us (o + 1) (w.setCell ⟨g, o, none⟩ u)).trans (by simp)
theorem setCells_own {w : World} {base : Nat} {e : TypeId} {size : Nat} {g n c : Nat} {xs : List Value} (h : w.ownsRow base e size (.slice (some ⟨g, 0, none⟩) n c) n xs) (us : List Value) {o : Nat} (ho : o + us.length ≤ n * size) :
    (w.setCells g o us).ownsRow base e size (.slice (some ⟨g, 0, none⟩) n c) n (xs.take o ++ us ++ xs.drop (o + us.length)) := by
  obtain ⟨h0, h⟩ := h
  refine ⟨by simp [h0]; omega, ?_⟩
  rcases h with ⟨hv, hn⟩ | ⟨g', cap, cur, hv, hg, hh, hn, hm, hs, ht⟩
  · cases hv
  · injection hv with e1 e2 e3
    injection e1 with e1
    injection e1 with e1
    subst e1; subst e3
    have hns : n * size ≤ c * size := Nat.mul_le_mul_right _ hn
    refine .inr ⟨g, c, _, rfl, hg, setCells_block us o w cur hh (by omega), hn, hm, ?_, ?_⟩
    · simp only [List.size_toArray, List.length_append, List.length_take, List.length_drop, Array.length_toList]
      omega
    · subst ht
      show (cur.toList.take o ++ us ++ cur.toList.drop (o + us.length)).take (n * size) = _
      rw [List.take_take, Nat.min_eq_left (by omega), List.drop_take, List.take_append, List.take_of_length_le (by simp; omega)]
      congr 1
      congr 1
      simp only [List.length_append, List.length_take, Array.length_toList]
      omega
end
end Go.Proofs.YtlgeepjlnjlgdaaDoor
