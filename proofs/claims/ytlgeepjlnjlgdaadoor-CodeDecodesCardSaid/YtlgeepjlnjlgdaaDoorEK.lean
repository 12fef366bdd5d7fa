/- The walk through coneyref11.code. -/
import Derived.Test.YtlgeepjlnjlgdaaDoorEI
import Derived.Test.YtlgeepjlnjlgdaaDoorEJ
import Derived.Deep.RegionHeld3
import Derived.Deep.RegionLaw
import Derived.Deep.DrawnRows
import Derived.Deep.AppendLies
namespace Go.Proofs.YtlgeepjlnjlgdaaDoor
open Go.RowKit

/-- What is left alone where instructions are laid down: all blocks ahead of B, and all that are not of instructions. -/
structure Kp (B : Nat) (w w' : World) : Prop where
  low : Below B w w'
  keep : ∀ (b : Nat) (cs : Array Value) (t : TypeId) (m : Nat × Nat), w.heap[b]? = some (.cells cs t m) → t ≠ 50 → w'.heap[b]? = some (.cells cs t m)
theorem Kp.of {B : Nat} {w w' : World} (h : Below w.heap.size w w') (hB : B ≤ w.heap.size) : Kp B w w' := ⟨h.mono hB, fun b _ _ _ hb _ => (h.block b (heap_lt hb)).trans hb⟩
theorem Kp.trans {B : Nat} {w w1 w2 : World} (h : Kp B w w1) (k : Kp B w1 w2) : Kp B w w2 := ⟨h.low.trans k.low, fun b cs t m hb ht => k.keep b cs t m (h.keep b cs t m hb ht) ht⟩
theorem Kp.size {B : Nat} {w w' : World} (h : Kp B w w') : w.heap.size ≤ w'.heap.size := h.low.size
theorem Kp.drew {B : Nat} {w w' : World} (h : Kp B w w') : Kp B w w'.drew := ⟨h.low.drew, h.keep⟩
theorem Kp.tp {B : Nat} {w w' : World} (h : Kp B w w') {S : Nat → Prop} {t : T} {v : Value} (ht : TP w S t v) : TP w' S t v := ht.keep fun b cs f hS hb => ⟨h.keep b cs _ f hb (by decide), hS⟩
theorem Kp.own {B : Nat} {w w' : World} (h : Kp B w w') {B' : Nat} {e : TypeId} {size : Nat} {v : Value} {n : Nat} {xs : List Value} (ho : w.ownsRow B' e size v n xs) (he : e ≠ 50) : w'.ownsRow B' e size v n xs :=
  own_keep ho fun g hg => by
    obtain ⟨cs, f, hh⟩ := Go.Lib.ownsRow_kind ho _ hg
    exact (h.keep g cs e f hh he).trans hh.symm
theorem Kp.irow {B : Nat} {w w' : World} (h : Kp B w w') {v : Value} {ns : List Int} (ho : IRow w v ns) : IRow w' v ns := h.own ho (by decide)
/-- A row of instructions has grown. -/
theorem Kp.grown {B : Nat} {w w' : World} {v : Value} {n : Nat} {xs : List Value} (hg : w.grownBy w' v.ownBlock) (ho : w.ownsRow B 50 3 v n xs) (hB : B ≤ w.heap.size) : Kp B w w' :=
  ⟨(Below.refl _ _).grown hg hB (ownBlock_ge ho), fun b cs t m hb ht => by
    refine (hg.block b (heap_lt hb) fun e => ?_).trans hb
    obtain ⟨cs', f, hh⟩ := Go.Lib.ownsRow_kind ho _ e.symm
    rw [hb] at hh
    injection hh with hh
    injection hh with _ hh
    exact ht hh⟩
theorem Tryd.info_ins : (Tryd.prog.info? 50).map (fun i => (i.zero, i.size, i.bytes)) = some (some (.agg #[.int .i64 0, .int .i64 0, .string ⟨#[]⟩]), 3, 32) := by kernel_rfl
theorem elIns : El Tryd.prog 27 50 (.agg #[.int .i64 0, .int .i64 0, .string ⟨#[]⟩]) 3 32 := by
  obtain ⟨i0, hi, hz0, hz1, hz2⟩ := info_parts Tryd.info_ins
  exact ⟨Tryd.underlying27, ⟨i0, hi, hz0, hz1, hz2⟩, rfl, by omega⟩
theorem Kp.grownNew {B B' : Nat} {w X w' : World} {e : TypeId} {size : Nat} {v : Value} {n : Nat} {xs : List Value} (h : Kp B w X) (hg : X.grownBy w' v.ownBlock) (ho : X.ownsRow B' e size v n xs) (hB' : w.heap.size ≤ B') (hB : B ≤ w.heap.size) : Kp B w w' :=
  ⟨h.low.grown hg (Nat.le_trans hB h.low.size) fun k hk => by have := (ho.lt k hk).1; omega, fun b cs t m hb ht => by
    have h1 := h.keep b cs t m hb ht
    refine (hg.block b (heap_lt h1) fun e => ?_).trans h1
    have h2 := (ho.lt b e.symm).1
    have h3 := heap_lt hb
    omega⟩
theorem grown_other {X w' : World} {B1 B2 : Nat} {e1 e2 : TypeId} {s1 s2 : Nat} {v1 v2 : Value} {n1 n2 : Nat} {x1 x2 : List Value} (h1 : X.ownsRow B1 e1 s1 v1 n1 x1) (hg : X.grownBy w' v2.ownBlock) (h2 : X.ownsRow B2 e2 s2 v2 n2 x2) (hne : e1 ≠ e2) : w'.ownsRow B1 e1 s1 v1 n1 x1 :=
  own_keep h1 fun g hv => hg.block g (h1.lt g hv).2 fun e => by
    obtain ⟨c1, f1, k1⟩ := Go.Lib.ownsRow_kind h1 _ hv
    obtain ⟨c2, f2, k2⟩ := Go.Lib.ownsRow_kind h2 _ e.symm
    rw [k1] at k2
    injection k2 with k2
    injection k2 with _ k2
    exact hne k2
theorem insCells_small (l : List Ins) : ∀ u ∈ insCells l, u.oneCell' = true := by
  intro u hu
  simp only [insCells, List.mem_flatMap] at hu
  obtain ⟨q, _, hu⟩ := hu
  simp only [Ins.cells, List.mem_cons, List.not_mem_nil, or_false] at hu
  rcases hu with rfl | rfl | rfl <;> rfl
theorem codeT_len : ∀ (t : T), t.kinds → ∀ vs, (codeT t vs).1.length = t.nodes ∧ (codeT t vs).2.length ≤ vs.length + t.nodes
  | .nil, h, _ => h.elim
  | .mk k n s m a, h, vs => by
    obtain ⟨hk, hm, ha⟩ := h
    have one : k ≠ 4 → (T.mk k n s m a).nodes = 1 := fun hk4 => by
      have := hm hk4
      subst this
      rfl
    unfold codeT
    by_cases h1 : k = 1
    · rw [if_pos h1, one (by omega)]
      cases plN vs n 0 <;> simp
    · rw [if_neg h1]
      by_cases h2 : k = 2
      · rw [if_pos h2, one (by omega)]; simp
      · rw [if_neg h2]
        by_cases h3 : k = 3
        · rw [if_pos h3, one (by omega)]; simp
        · rw [if_neg h3]
          have key : ∀ (q : Nat), q ≤ m → (foldC q (fun i => codeT (a i)) ([⟨6, (m : Int), s⟩], vs)).1.length = 1 + sumTo q (fun i => (a i).nodes) ∧ (foldC q (fun i => codeT (a i)) ([⟨6, (m : Int), s⟩], vs)).2.length ≤ vs.length + (1 + sumTo q (fun i => (a i).nodes)) := by
            intro q
            induction q with
            | zero => intro _; simp [foldC, sumTo]
            | succ q ih =>
              intro hq
              obtain ⟨i1, i2⟩ := ih (by omega)
              obtain ⟨j1, j2⟩ := codeT_len (a q) (ha q (by omega)) (foldC q (fun i => codeT (a i)) ([⟨6, (m : Int), s⟩], vs)).2
              refine ⟨?_, ?_⟩
              · show ((foldC q (fun i => codeT (a i)) ([⟨6, (m : Int), s⟩], vs)).1 ++ (codeT (a q) (foldC q (fun i => codeT (a i)) ([⟨6, (m : Int), s⟩], vs)).2).1).length = 1 + (sumTo q (fun i => (a i).nodes) + (a q).nodes)
                rw [List.length_append, i1, j1]
                omega
              · show (codeT (a q) (foldC q (fun i => codeT (a i)) ([⟨6, (m : Int), s⟩], vs)).2).2.length ≤ vs.length + (1 + (sumTo q (fun i => (a i).nodes) + (a q).nodes))
                omega
          exact key m (Nat.le_refl _)
theorem sumTo_le (f : Nat → Nat) : ∀ {a b : Nat}, a ≤ b → sumTo a f ≤ sumTo b f
  | a, 0, h => by obtain rfl : a = 0 := by omega
                  exact Nat.le_refl _
  | a, b + 1, h => by
    rcases Nat.eq_or_lt_of_le h with rfl | h1
    · exact Nat.le_refl _
    · have := sumTo_le f (show a ≤ b by omega)
      simp only [sumTo]
      omega
/-- What code hands back. -/
def CodeP (B : Nat) (t : T) (l : List Ins) (vs : List Int) (w : World) (e : Ending) (w' : World) : Prop :=
  ∃ ov vv : Value, e = .returned (.tuple #[ov, vv]) ∧ IRw w' B ov (l ++ (codeT t vs).1) ∧ IRow w' vv (codeT t vs).2 ∧ Kp B w w'
set_option maxRecDepth 100000 in
set_option maxHeartbeats 8000000 in
theorem code_any : ∀ (t : T), t.ok → ∀ (B : Nat) (l : List Ins) (vs : List Int) (ov vv v : Value) (w : World) (S : Nat → Prop), TP w S t v → IRw w B ov l → IRow w vv vs → B ≤ w.heap.size → l.length + t.nodes ≤ 50000 → vs.length + t.nodes ≤ 50000 →
    Calls Tryd.prog 22 #[ov, v, vv] w fun e w' => CodeP B t l vs w e w' := by
  intro t
  induction t with
  | nil => exact fun _ _ _ _ _ _ _ _ _ h => h.elim
  | mk k n s m a ih =>
    intro hok B l vs ov vv v w S hv ho hvs hB hl hlv
    obtain ⟨k', n', s', A, m', c, rfl⟩ := hv.agg
    obtain ⟨e0, e1, e2, rfl, hmc, hA, _⟩ := hv.args
    injection e0 with _ e0
    injection e1 with _ e1
    injection e2 with e2
    subst e0; subst e1; subst e2
    have HV := Lib.hid hv
    have HO := Lib.hid ho
    have HVS := Lib.hid hvs
    have HOK := Lib.hid hok
    have IH := Lib.hid ih
    have hm : m' < 4000 := hok.few
    have BX := Lib.hid (belA (Below.refl w.heap.size w) (Obj.cells #[.int .i64 k', .int .i64 n', .string s', .slice A m' c] 24))
    have HB0 := Lib.hid (heap_alloc_new w (Obj.cells #[.int .i64 k', .int .i64 n', .string s', .slice A m' c] 24))
    have NEW := Lib.hid (show ∀ (cs : Array Value) (j : Nat), ((w.alloc (Obj.cells #[.int .i64 k', .int .i64 n', .string s', .slice A m' c] 24)).alloc (Obj.cells cs 50)).cell? ⟨w.heap.size + 1, j, none⟩ = cs[j]? from fun cs j => cell_of_row _ _ j _ _ _ (heap_at _ _ (by simp)))
    obtain ⟨AV, cv, rfl, hcv, hAV, _⟩ := hvs.open_
    clear hv ho hvs hok ih hA
    have hpos : 0 < (T.mk k' n' s' m' a).nodes := HOK.out.1.pos
    cases h1 : (k' == 1) with
    | true =>
      have hk1 : k' = 1 := by simpa using h1
      have hx := HOK.out.var hk1
      have hn0 : 0 ≤ n' ∧ n' < 9223372036854775808 := ⟨hx.1, hx.2.1⟩
      have C0 := Lib.hid (place_any (HVS.out.below BX.out) (by omega) n')
      subst hk1
      clear hx
      cases hp : plN vs n' 0 with
      | some i =>
        have HC := Lib.hid (show codeT (.mk 1 n' s' m' a) vs = ([⟨3, (i : Int), ⟨#[]⟩⟩], vs) by simp only [codeT, hp]; rfl)
        have hpi : plV (plN vs n' 0) = (i : Int) := by rw [hp]; rfl
        rw [hpi] at C0
        clear hp hpi
        go_enter Tryd.func22, Tryd.ntmps22
        go_wp2_with fail
        refine C0.out.mono ?_
        rintro e w1 ⟨rfl, hx⟩
        have K0 := Lib.hid ((Kp.of BX.out hB).trans (Kp.of hx (by simp; omega)))
        have HO1 := Lib.hid (own_below (own_below HO.out BX.out) hx)
        have V0 := Lib.hid (K0.out.irow HVS.out)
        have hw1 := K0.out.size
        clear hx C0
        go_wp2_with (at_builtin; go_must (refine wpList_append_at _ rfl _ _ _ rfl elIns B _ l.length (insCells l) rfl (HO1.out.alloc _) (some ⟨w1.heap.size, 0, none⟩) 1 1 (insCells [⟨3, (i : Int), ⟨#[]⟩⟩]) rfl (fun h => by cases h) (Nat.le_refl _) rfl (fun _ => ⟨_, 0, rfl, fun j u hu => ?_⟩) (insCells_small _) (by omega) (by unfold maxLen; omega) (by simp; omega) ?_))
        · simpa [insCells, Ins.cells] using hu
        intro v1 w2 hown1 hg1 hat1
        have O1 := Lib.hid (show IRw w2 B v1 (l ++ [⟨3, (i : Int), ⟨#[]⟩⟩]) by
          unfold IRw
          rw [← insCells_app, List.length_append]
          exact hown1)
        have K1 := Lib.hid ((K0.out.trans (Kp.of ((Below.refl _ _).alloc (Nat.le_refl _) (Obj.cells #[.int .i64 3, .int .i64 (i : Int), .string ⟨#[]⟩] 50)) (by omega))).trans (Kp.grown hg1 (HO1.out.alloc _) (by simp; omega)))
        have V1 := Lib.hid (K1.out.irow HVS.out)
        clear hown1 hg1 hat1
        go_wp2_with fail
        go_ret2
        exact ⟨_, _, rfl, by rw [HC.out]; exact O1.out, by rw [HC.out]; exact V1.out, K1.out⟩
      | none =>
        have HC := Lib.hid (show codeT (.mk 1 n' s' m' a) vs = ([⟨2, (vs.length : Int), ⟨#[]⟩⟩], vs ++ [n']) by simp only [codeT, hp]; rfl)
        have hpi : plV (plN vs n' 0) = -1 := by rw [hp]; rfl
        rw [hpi] at C0
        clear hp hpi
        go_enter Tryd.func22, Tryd.ntmps22
        go_wp2_with fail
        refine C0.out.mono ?_
        rintro e w1 ⟨rfl, hx⟩
        have K0 := Lib.hid ((Kp.of BX.out hB).trans (Kp.of hx (by simp; omega)))
        have HB1 := Lib.hid ((hx.block w.heap.size (by simp)).trans HB0.out)
        have HO1 := Lib.hid (own_below (own_below HO.out BX.out) hx)
        have V0 := Lib.hid (K0.out.irow HVS.out)
        have hw1 := K0.out.size
        have hb1 := heap_lt HB1.out
        have O0 := Lib.hid (ownsRow_empty (w1.alloc (Obj.cells #[] 3)) 3 1 w1.heap.size (heap_alloc_new _ _))
        have HU := Lib.hid (show 0 < vs.length → ∃ b off, AV = some ⟨b, off, none⟩ ∧ ∀ j u, (vs.map (Value.int .i64))[j]? = some u → (w1.alloc (Obj.cells #[] 3)).cell? ⟨b, off + j, none⟩ = some u from fun h0 => by
          obtain ⟨_, _, he, _, _, hcell⟩ := V0.out.open_
          injection he with he1 _ he3
          subst he1; subst he3
          obtain ⟨g, hA, hgl, _⟩ := hcell 0 _ (List.getElem?_eq_getElem h0)
          refine ⟨g, 0, hA, fun j u hu => ?_⟩
          rw [List.getElem?_map] at hu
          obtain ⟨x, hx, rfl⟩ := Option.map_eq_some_iff.1 hu
          obtain ⟨g', hA', hgl', hc'⟩ := hcell j x hx
          rw [hA] at hA'
          injection hA' with hA'
          injection hA' with hA' _
          subst hA'
          rw [Nat.zero_add, World.cell?_alloc_lt _ _ _ hgl']
          exact hc')
        clear hx C0
        go_wp2_with (at_builtin; go_must (refine wpList_append_at _ rfl _ _ _ rfl elInt8 w1.heap.size _ 0 [] rfl O0.out AV vs.length cv (vs.map (Value.int .i64)) rfl hAV hcv (by simp) HU.out (by simp [Value.oneCell']) (by omega) (by unfold maxLen; omega) (by simp) ?_))
        intro v2 w2 hown2 hg2 hat2
        have HB2 := Lib.hid ((hg2.block w.heap.size (by simp; omega) (by simp [Value.ownBlock]; omega)).trans ((Below.heap_alloc _ _ _ hb1).trans HB1.out))
        have B2 := Lib.hid (((Below.refl w1.heap.size w1).alloc (Nat.le_refl _) (Obj.cells #[] 3)).grown hg2 (by simp) (by simp [Value.ownBlock]))
        have K2 := Lib.hid (K0.out.trans (Kp.of B2.out (by omega)))
        have L2 := Lib.hid (show w2.ownsRow w1.heap.size 3 1 v2 vs.length (vs.map (Value.int .i64)) by simpa using hown2)
        have O2 := Lib.hid (own_below HO1.out B2.out)
        obtain ⟨A2, c2, rfl, _, _, _, _⟩ := own_open L2.out
        obtain ⟨q0, c1, q2, q3⟩ := box4t HB2.out
        have hw2 := K2.out.size
        have hw12 := B2.out.size
        clear hown2 hg2 hat2
        have SC0 := Lib.hid (show ∀ u, Below w2.heap.size w2 u → u.cell? ⟨w.heap.size, 1, none⟩ = some (.int .i64 n') from fun u hu => (hu.cell (p := ⟨w.heap.size, 1, none⟩) (heap_lt HB2.out)).trans (box4t HB2.out).2.1)
        obtain ⟨itemI, jj1, jj2, jj3, jj4⟩ := elIns.hi
        obtain ⟨itemJ, kk1, kk2, kk3, kk4⟩ := elInt8.hi
        go_wp2_with fail
        refine wp_region_held_drew (S := fun w1 => w1.cell? ⟨w.heap.size, 1, none⟩ = some (Value.int .i64 n')) (by kernel_rfl) ?Sr8 (fun hH0 => ?Br8)
        case Sr8 => (exact c1)
        refine wpAnyH_take (i := 0) (oi := { dst := some 31, op := Go.Op.move (Go.Operand.tmp 0), type := 27, pos := "ref.go:31", after := #[], guard := none }) (v := ?vr80) rfl (by kernel_rfl) (by kernel_rfl) (by kernel_rfl) (fun _ _ _ h => h) (Or.inl ⟨by rfl, ?hyr80⟩) (by assumption) ?restr80
        case hyr80 => (intro w hSw; (try dsimp only at hSw); go_simp; try with_reducible rfl)
        try simp only [Act.put, List.setIfInBounds_toArray, List.set_cons_zero, List.set_cons_succ]
        refine wpAnyH_take (i := 1) (oi := { dst := some 32, op := Go.Op.move (Go.Operand.tmp 2), type := 55, pos := "ref.go:31", after := #[], guard := none }) (v := ?vr81) rfl (by kernel_rfl) (by kernel_rfl) (by kernel_rfl) (fun _ _ _ h => h) (Or.inl ⟨by rfl, ?hyr81⟩) (by assumption) ?restr81
        case hyr81 => (intro w hSw; (try dsimp only at hSw); go_simp; try with_reducible rfl)
        try simp only [Act.put, List.setIfInBounds_toArray, List.set_cons_zero, List.set_cons_succ]
        refine wpAnyH_take (i := 2) (oi := { dst := some 33, op := Go.Op.call { callee := Go.Callee.builtin Go.Builtin.len, args := #[Go.Operand.tmp 32], argTypes := #[55] }, type := 3, pos := "ref.go:31", after := #[{ on := 1, ground := Go.Ground.data }], guard := none }) (v := ?vr82) rfl (by kernel_rfl) (by kernel_rfl) (by kernel_rfl) (fun _ _ _ h => h) (Or.inl ⟨by rfl, ?hyr82⟩) (by assumption) ?restr82
        case hyr82 => (intro w hSw; (try dsimp only at hSw); go_simp; try with_reducible rfl)
        try simp only [Act.put, List.setIfInBounds_toArray, List.set_cons_zero, List.set_cons_succ]
        refine wpAnyH_take (i := 3) (oi := { dst := some 34, op := Go.Op.build 50 #[(0, Go.Operand.const (Go.Value.int Go.IntKind.i64 2)), (1, Go.Operand.tmp 33)], type := 50, pos := "ref.go:31", after := #[{ on := 2, ground := Go.Ground.data }], guard := none }) (v := ?vr83) rfl (by kernel_rfl) (by kernel_rfl) (by kernel_rfl) (fun _ _ _ h => h) (Or.inl ⟨by rfl, ?hyr83⟩) (by assumption) ?restr83
        case hyr83 => (intro w hSw; (try dsimp only at hSw); go_simp; try with_reducible rfl)
        try simp only [Act.put, List.setIfInBounds_toArray, List.set_cons_zero, List.set_cons_succ]
        refine wpAnyH_take (i := 6) (oi := { dst := some 37, op := Go.Op.move (Go.Operand.tmp 9), type := 55, pos := "ref.go:31", after := #[], guard := none }) (v := ?vr86) rfl (by kernel_rfl) (by kernel_rfl) (by kernel_rfl) (fun _ _ _ h => h) (Or.inl ⟨by rfl, ?hyr86⟩) (by assumption) ?restr86
        case hyr86 => (intro w hSw; (try dsimp only at hSw); go_simp; try with_reducible rfl)
        try simp only [Act.put, List.setIfInBounds_toArray, List.set_cons_zero, List.set_cons_succ]
        refine wpAnyH_take (i := 7) (oi := { dst := some 38, op := Go.Op.fieldAddr 24 (Go.Operand.tmp 4) 1, type := 0, pos := "ref.go:31", after := #[], guard := none }) (v := ?vr87) rfl (by kernel_rfl) (by kernel_rfl) (by kernel_rfl) (fun _ _ _ h => h) (Or.inl ⟨by rfl, ?hyr87⟩) (by assumption) ?restr87
        case hyr87 => (intro w hSw; (try dsimp only at hSw); go_simp; try with_reducible rfl)
        try simp only [Act.put, List.setIfInBounds_toArray, List.set_cons_zero, List.set_cons_succ]
        refine wpAnyH_take (i := 8) (oi := { dst := some 39, op := Go.Op.load 3 (Go.Operand.tmp 38), type := 3, pos := "ref.go:31", after := #[{ on := 7, ground := Go.Ground.data }], guard := none }) (v := ?vr88) rfl (by kernel_rfl) (by kernel_rfl) (by kernel_rfl) (fun _ _ _ h => h) (Or.inl ⟨by rfl, ?hyr88⟩) (by assumption) ?restr88
        case hyr88 => (intro w hSw; (try dsimp only at hSw); go_simp; try with_reducible rfl)
        try simp only [Act.put, List.setIfInBounds_toArray, List.set_cons_zero, List.set_cons_succ]
        refine wpAnyH_ready (rs := [4, 9]) (by kernel_rfl) (by simp) ?_
        refine AllReadyH.cons (o := { dst := some 35, op := Go.Op.buildSlice 27 1 #[(0, Go.Operand.tmp 34)], type := 27, pos := "ref.go:31", after := #[{ on := 3, ground := Go.Ground.data }], guard := none }) rfl (fun K hK => ?opz1) ?nxz2
        case opz1 =>
          go_simp
          refine hK.out _ _ ?Sz1 (fun hHz1 => ?Rz1)
          case Sz1 => exact SC0.out _ (by repeat (first | (with_reducible exact Below.refl _ _) | (with_reducible refine Below.drew ?_) | (with_reducible refine Below.alloc ?_ (by simp) _)))
          clear hK K
          try simp only [Act.put, List.setIfInBounds_toArray, List.set_cons_zero, List.set_cons_succ]
          refine wpAnyH_ready (rs := [5, 9]) (by kernel_rfl) (by simp) ?_
          refine AllReadyH.cons (o := { dst := some 36, op := Go.Op.call { callee := Go.Callee.builtin Go.Builtin.append, args := #[Go.Operand.tmp 31, Go.Operand.tmp 35], argTypes := #[27, 27] }, type := 27, pos := "ref.go:31", after := #[{ on := 0, ground := Go.Ground.data }, { on := 4, ground := Go.Ground.data }], guard := none }) rfl (fun K hK => ?opz4) ?nxz5
          case opz4 =>
            skip
            refine step_append_lies _ rfl _ _ _ rfl B 50 itemI (.agg #[.int .i64 0, .int .i64 0, .string ⟨#[]⟩]) 3 32 Tryd.underlying27 jj1 jj2 jj3 jj4 rfl (by omega) _ l.length _ rfl (own_below O2.out (by repeat (first | (with_reducible exact Below.refl _ _) | (with_reducible refine Below.drew ?_) | (with_reducible refine Below.alloc ?_ (by simp) _)))) ⟨w2.heap.size, 0, none⟩ 1 1 [.int .i64 2, .int .i64 (vs.length : Int), .string ⟨#[]⟩] rfl rfl (World.news_of_block (heap_at _ _ (by simp))) ?smz4 (by omega) (by unfold maxLen; omega) (by omega) (by simp; omega) _ rfl ?_
            case smz4 => (intro u hu; simp only [List.mem_cons, List.not_mem_nil, or_false] at hu; rcases hu with rfl | rfl | rfl <;> rfl)
            intro g1 cap1 yz4 hown1 hg1 hat1 hlt1
            have Kz4 := Lib.hid ((K2.out.trans (Kp.of (by repeat (first | (with_reducible exact Below.refl _ _) | (with_reducible refine Below.drew ?_) | (with_reducible refine Below.alloc ?_ (by simp) _))) (by omega))).trans (Kp.grown hg1 (own_below O2.out (by repeat (first | (with_reducible exact Below.refl _ _) | (with_reducible refine Below.drew ?_) | (with_reducible refine Below.alloc ?_ (by simp) _)))) (by simp; omega)))
            have Lz4 := Lib.hid (((Kp.of (B := B) (by repeat (first | (with_reducible exact Below.refl _ _) | (with_reducible refine Below.drew ?_) | (with_reducible refine Below.alloc ?_ (by simp) _))) (by omega)).trans (Kp.grown hg1 (own_below O2.out (by repeat (first | (with_reducible exact Below.refl _ _) | (with_reducible refine Below.drew ?_) | (with_reducible refine Below.alloc ?_ (by simp) _)))) (by simp; omega))).own L2.out (by decide))
            have Oz4 := Lib.hid (show IRw yz4 B (.slice (some ⟨g1, 0, none⟩) (l.length + 1) cap1) (l ++ [⟨2, (vs.length : Int), ⟨#[]⟩⟩]) by unfold IRw; rw [← insCells_app, List.length_append]; exact hown1)
            have hzz4 := Kz4.out.size
            have hyz4 : w2.heap.size ≤ yz4.heap.size := Kp.size (B := B) (w := w2) (w' := yz4) ((Kp.of (by repeat (first | (with_reducible exact Below.refl _ _) | (with_reducible refine Below.drew ?_) | (with_reducible refine Below.alloc ?_ (by simp) _))) (by omega)).trans (Kp.grown hg1 (own_below O2.out (by repeat (first | (with_reducible exact Below.refl _ _) | (with_reducible refine Below.drew ?_) | (with_reducible refine Below.alloc ?_ (by simp) _)))) (by simp; omega)))
            have SCz4 := Lib.hid (show ∀ u, Below yz4.heap.size yz4 u → u.cell? ⟨w.heap.size, 1, none⟩ = some (.int .i64 n') from fun u hu => (hu.cell (p := ⟨w.heap.size, 1, none⟩) (heap_lt (((Kp.of (B := B) (by repeat (first | (with_reducible exact Below.refl _ _) | (with_reducible refine Below.drew ?_) | (with_reducible refine Below.alloc ?_ (by simp) _))) (by omega)).trans (Kp.grown hg1 (own_below O2.out (by repeat (first | (with_reducible exact Below.refl _ _) | (with_reducible refine Below.drew ?_) | (with_reducible refine Below.alloc ?_ (by simp) _)))) (by simp; omega))).keep _ _ _ _ HB2.out (by decide)))).trans (box4t (((Kp.of (B := B) (by repeat (first | (with_reducible exact Below.refl _ _) | (with_reducible refine Below.drew ?_) | (with_reducible refine Below.alloc ?_ (by simp) _))) (by omega)).trans (Kp.grown hg1 (own_below O2.out (by repeat (first | (with_reducible exact Below.refl _ _) | (with_reducible refine Below.drew ?_) | (with_reducible refine Below.alloc ?_ (by simp) _)))) (by simp; omega))).keep _ _ _ _ HB2.out (by decide))).2.1)
            refine hK.out _ _ ?Sz4 (fun hHz4 => ?Rz4)
            case Sz4 => exact SCz4.out _ (by repeat (first | (with_reducible exact Below.refl _ _) | (with_reducible refine Below.drew ?_) | (with_reducible refine Below.alloc ?_ (by simp) _)))
            clear hK K hown1 hg1 hat1
            try simp only [Act.put, List.setIfInBounds_toArray, List.set_cons_zero, List.set_cons_succ]
            refine wpAnyH_ready (rs := [9]) (by kernel_rfl) (by simp) ?_
            refine AllReadyH.cons (o := { dst := some 40, op := Go.Op.buildSlice 55 1 #[(0, Go.Operand.tmp 39)], type := 55, pos := "ref.go:31", after := #[{ on := 8, ground := Go.Ground.data }], guard := none }) rfl (fun K hK => ?opz7) ?nilz8
            case opz7 =>
              go_simp
              refine hK.out _ _ ?Sz7 (fun hHz7 => ?Rz7)
              case Sz7 => exact SCz4.out _ (by repeat (first | (with_reducible exact Below.refl _ _) | (with_reducible refine Below.drew ?_) | (with_reducible refine Below.alloc ?_ (by simp) _)))
              clear hK K
              try simp only [Act.put, List.setIfInBounds_toArray, List.set_cons_zero, List.set_cons_succ]
              refine wpAnyH_ready (rs := [10]) (by kernel_rfl) (by simp) ?_
              refine AllReadyH.cons (o := { dst := some 41, op := Go.Op.call { callee := Go.Callee.builtin Go.Builtin.append, args := #[Go.Operand.tmp 37, Go.Operand.tmp 40], argTypes := #[55, 55] }, type := 55, pos := "ref.go:31", after := #[{ on := 6, ground := Go.Ground.data }, { on := 9, ground := Go.Ground.data }, { on := 5, ground := Go.Ground.chain }], guard := none }) rfl (fun K hK => ?opz9) ?nilz10
              case opz9 =>
                refine step_append_lies _ rfl _ _ _ rfl w1.heap.size 3 itemJ (.int .i64 0) 1 8 Tryd.underlying55 kk1 kk2 kk3 kk4 rfl (by omega) _ vs.length _ rfl (own_below Lz4.out (by repeat (first | (with_reducible exact Below.refl _ _) | (with_reducible refine Below.drew ?_) | (with_reducible refine Below.alloc ?_ (by simp) _)))) ⟨yz4.heap.size, 0, none⟩ 1 1 [.int .i64 n'] rfl rfl (World.news_of_block (heap_at _ _ (by simp))) ?smz9 (by omega) (by unfold maxLen; omega) (by omega) (by first | omega | (simp; omega)) _ rfl ?_
                case smz9 => (intro u hu; simp only [List.mem_cons, List.not_mem_nil, or_false] at hu; subst hu; rfl)
                intro g2 cap2 yz9 hown2 hg2 hat2 hlt2
                have KF := Lib.hid ((Kz4.out.trans (Kp.of (by repeat (first | (with_reducible exact Below.refl _ _) | (with_reducible refine Below.drew ?_) | (with_reducible refine Below.alloc ?_ (by simp) _))) (by omega))).grownNew hg2 (own_below Lz4.out (by repeat (first | (with_reducible exact Below.refl _ _) | (with_reducible refine Below.drew ?_) | (with_reducible refine Below.alloc ?_ (by simp) _)))) hw1 hB)
                have OF := Lib.hid (grown_other (own_below Oz4.out (by repeat (first | (with_reducible exact Below.refl _ _) | (with_reducible refine Below.drew ?_) | (with_reducible refine Below.alloc ?_ (by simp) _)))) hg2 (own_below Lz4.out (by repeat (first | (with_reducible exact Below.refl _ _) | (with_reducible refine Below.drew ?_) | (with_reducible refine Below.alloc ?_ (by simp) _)))) (by decide))
                have VF := Lib.hid (show IRow yz9 (.slice (some ⟨g2, 0, none⟩) (vs.length + 1) cap2) (vs ++ [n']) from own_more (B' := 0) (by simpa using hown2) (Nat.zero_le _))
                have SF := Lib.hid (show yz9.cell? ⟨w.heap.size, 1, none⟩ = some (.int .i64 n') from (World.cell?_of_block (a := ⟨w.heap.size, 1, none⟩) (hg2.block w.heap.size (by first | omega | (simp; omega)) fun e => by have := (Lz4.out.lt _ e.symm).1; omega)).trans (SCz4.out _ (by repeat (first | (with_reducible exact Below.refl _ _) | (with_reducible refine Below.drew ?_) | (with_reducible refine Below.alloc ?_ (by simp) _)))))
                refine hK.out _ _ ?Sz9 (fun hHz9 => ?Rz9)
                case Sz9 => exact SF.out
                clear hK K hown2 hg2 hat2
                try simp only [Act.put, List.setIfInBounds_toArray, List.set_cons_zero, List.set_cons_succ]
                refine wpAnyH_take (i := 11) (oi := { dst := some 6, op := Go.Op.assign (Go.Operand.tmp 36), type := 27, pos := "ref.go:31", after := #[{ on := 5, ground := Go.Ground.data }, { on := 10, ground := Go.Ground.chain }, { on := 0, ground := Go.Ground.phase }, { on := 1, ground := Go.Ground.phase }, { on := 2, ground := Go.Ground.phase }, { on := 3, ground := Go.Ground.phase }, { on := 4, ground := Go.Ground.phase }, { on := 5, ground := Go.Ground.phase }, { on := 6, ground := Go.Ground.textOnly Go.Departure.lateStores }, { on := 7, ground := Go.Ground.textOnly Go.Departure.lateStores }, { on := 8, ground := Go.Ground.textOnly Go.Departure.lateStores }, { on := 9, ground := Go.Ground.textOnly Go.Departure.lateStores }, { on := 10, ground := Go.Ground.textOnly Go.Departure.lateStoresUnsure }], guard := none }) (v := ?vz911) rfl (by kernel_rfl) (by kernel_rfl) (by kernel_rfl) (fun _ _ _ h => h) (Or.inl ⟨by rfl, ?hyz911⟩) (by assumption) ?restz911
                case hyz911 => (intro w hSw; (try dsimp only at hSw); go_simp; try with_reducible rfl)
                try simp only [Act.put, List.setIfInBounds_toArray, List.set_cons_zero, List.set_cons_succ]
                refine wpAnyH_take (i := 12) (oi := { dst := some 7, op := Go.Op.assign (Go.Operand.tmp 41), type := 55, pos := "ref.go:31", after := #[{ on := 10, ground := Go.Ground.data }, { on := 11, ground := Go.Ground.chain }, { on := 0, ground := Go.Ground.phase }, { on := 1, ground := Go.Ground.phase }, { on := 2, ground := Go.Ground.phase }, { on := 3, ground := Go.Ground.phase }, { on := 4, ground := Go.Ground.phase }, { on := 5, ground := Go.Ground.phase }, { on := 6, ground := Go.Ground.phase }, { on := 7, ground := Go.Ground.phase }, { on := 8, ground := Go.Ground.phase }, { on := 9, ground := Go.Ground.phase }, { on := 10, ground := Go.Ground.phase }, { on := 11, ground := Go.Ground.phase }], guard := none }) (v := ?vz912) rfl (by kernel_rfl) (by kernel_rfl) (by kernel_rfl) (fun _ _ _ h => h) (Or.inl ⟨by rfl, ?hyz912⟩) (by assumption) ?restz912
                case hyz912 => (intro w hSw; (try dsimp only at hSw); go_simp; try with_reducible rfl)
                try simp only [Act.put, List.setIfInBounds_toArray, List.set_cons_zero, List.set_cons_succ]
                refine wpAnyH_done (by kernel_rfl) ?_ _
                go_wp2_with fail
                go_ret2
                exact ⟨_, _, rfl, by rw [HC.out]; exact OF.out, by rw [HC.out]; exact VF.out, KF.out⟩
              case nilz10 => exact AllReadyH.nil
            case nilz8 => exact AllReadyH.nil
          case nxz5 =>
            refine AllReadyH.cons (o := { dst := some 40, op := Go.Op.buildSlice 55 1 #[(0, Go.Operand.tmp 39)], type := 55, pos := "ref.go:31", after := #[{ on := 8, ground := Go.Ground.data }], guard := none }) rfl (fun K hK => ?opz5) ?nilz6
            case opz5 =>
              go_simp
              refine hK.out _ _ ?Sz5 (fun hHz5 => ?Rz5)
              case Sz5 => exact SC0.out _ (by repeat (first | (with_reducible exact Below.refl _ _) | (with_reducible refine Below.drew ?_) | (with_reducible refine Below.alloc ?_ (by simp) _)))
              clear hK K
              try simp only [Act.put, List.setIfInBounds_toArray, List.set_cons_zero, List.set_cons_succ]
              refine wpAnyH_ready (rs := [5]) (by kernel_rfl) (by simp) ?_
              refine AllReadyH.cons (o := { dst := some 36, op := Go.Op.call { callee := Go.Callee.builtin Go.Builtin.append, args := #[Go.Operand.tmp 31, Go.Operand.tmp 35], argTypes := #[27, 27] }, type := 27, pos := "ref.go:31", after := #[{ on := 0, ground := Go.Ground.data }, { on := 4, ground := Go.Ground.data }], guard := none }) rfl (fun K hK => ?opz11) ?nilz12
              case opz11 =>
                skip
                refine step_append_lies _ rfl _ _ _ rfl B 50 itemI (.agg #[.int .i64 0, .int .i64 0, .string ⟨#[]⟩]) 3 32 Tryd.underlying27 jj1 jj2 jj3 jj4 rfl (by omega) _ l.length _ rfl (own_below O2.out (by repeat (first | (with_reducible exact Below.refl _ _) | (with_reducible refine Below.drew ?_) | (with_reducible refine Below.alloc ?_ (by simp) _)))) ⟨w2.heap.size, 0, none⟩ 1 1 [.int .i64 2, .int .i64 (vs.length : Int), .string ⟨#[]⟩] rfl rfl (World.news_of_block ((Below.heap_alloc _ _ _ (by simp)).trans (heap_at _ _ (by simp)))) ?smz11 (by omega) (by unfold maxLen; omega) (by omega) (by simp; omega) _ rfl ?_
                case smz11 => (intro u hu; simp only [List.mem_cons, List.not_mem_nil, or_false] at hu; rcases hu with rfl | rfl | rfl <;> rfl)
                intro g1 cap1 yz11 hown1 hg1 hat1 hlt1
                have Kz11 := Lib.hid ((K2.out.trans (Kp.of (by repeat (first | (with_reducible exact Below.refl _ _) | (with_reducible refine Below.drew ?_) | (with_reducible refine Below.alloc ?_ (by simp) _))) (by omega))).trans (Kp.grown hg1 (own_below O2.out (by repeat (first | (with_reducible exact Below.refl _ _) | (with_reducible refine Below.drew ?_) | (with_reducible refine Below.alloc ?_ (by simp) _)))) (by simp; omega)))
                have Lz11 := Lib.hid (((Kp.of (B := B) (by repeat (first | (with_reducible exact Below.refl _ _) | (with_reducible refine Below.drew ?_) | (with_reducible refine Below.alloc ?_ (by simp) _))) (by omega)).trans (Kp.grown hg1 (own_below O2.out (by repeat (first | (with_reducible exact Below.refl _ _) | (with_reducible refine Below.drew ?_) | (with_reducible refine Below.alloc ?_ (by simp) _)))) (by simp; omega))).own L2.out (by decide))
                have Oz11 := Lib.hid (show IRw yz11 B (.slice (some ⟨g1, 0, none⟩) (l.length + 1) cap1) (l ++ [⟨2, (vs.length : Int), ⟨#[]⟩⟩]) by unfold IRw; rw [← insCells_app, List.length_append]; exact hown1)
                have hzz11 := Kz11.out.size
                have hyz11 : w2.heap.size ≤ yz11.heap.size := Kp.size (B := B) (w := w2) (w' := yz11) ((Kp.of (by repeat (first | (with_reducible exact Below.refl _ _) | (with_reducible refine Below.drew ?_) | (with_reducible refine Below.alloc ?_ (by simp) _))) (by omega)).trans (Kp.grown hg1 (own_below O2.out (by repeat (first | (with_reducible exact Below.refl _ _) | (with_reducible refine Below.drew ?_) | (with_reducible refine Below.alloc ?_ (by simp) _)))) (by simp; omega)))
                have SCz11 := Lib.hid (show ∀ u, Below yz11.heap.size yz11 u → u.cell? ⟨w.heap.size, 1, none⟩ = some (.int .i64 n') from fun u hu => (hu.cell (p := ⟨w.heap.size, 1, none⟩) (heap_lt (((Kp.of (B := B) (by repeat (first | (with_reducible exact Below.refl _ _) | (with_reducible refine Below.drew ?_) | (with_reducible refine Below.alloc ?_ (by simp) _))) (by omega)).trans (Kp.grown hg1 (own_below O2.out (by repeat (first | (with_reducible exact Below.refl _ _) | (with_reducible refine Below.drew ?_) | (with_reducible refine Below.alloc ?_ (by simp) _)))) (by simp; omega))).keep _ _ _ _ HB2.out (by decide)))).trans (box4t (((Kp.of (B := B) (by repeat (first | (with_reducible exact Below.refl _ _) | (with_reducible refine Below.drew ?_) | (with_reducible refine Below.alloc ?_ (by simp) _))) (by omega)).trans (Kp.grown hg1 (own_below O2.out (by repeat (first | (with_reducible exact Below.refl _ _) | (with_reducible refine Below.drew ?_) | (with_reducible refine Below.alloc ?_ (by simp) _)))) (by simp; omega))).keep _ _ _ _ HB2.out (by decide))).2.1)
                have Nz11 := Lib.hid (show yz11.heap[w2.heap.size + 1]? = some (.cells #[.int .i64 n'] 3 (0, 0)) from (Kp.grown hg1 (own_below O2.out (by repeat (first | (with_reducible exact Below.refl _ _) | (with_reducible refine Below.drew ?_) | (with_reducible refine Below.alloc ?_ (by simp) _)))) (by simp; omega)).keep _ _ _ _ (heap_at _ _ (by simp)) (by decide))
                refine hK.out _ _ ?Sz11 (fun hHz11 => ?Rz11)
                case Sz11 => exact SCz11.out _ (by repeat (first | (with_reducible exact Below.refl _ _) | (with_reducible refine Below.drew ?_) | (with_reducible refine Below.alloc ?_ (by simp) _)))
                clear hK K hown1 hg1 hat1
                try simp only [Act.put, List.setIfInBounds_toArray, List.set_cons_zero, List.set_cons_succ]
                refine wpAnyH_ready (rs := [10]) (by kernel_rfl) (by simp) ?_
                refine AllReadyH.cons (o := { dst := some 41, op := Go.Op.call { callee := Go.Callee.builtin Go.Builtin.append, args := #[Go.Operand.tmp 37, Go.Operand.tmp 40], argTypes := #[55, 55] }, type := 55, pos := "ref.go:31", after := #[{ on := 6, ground := Go.Ground.data }, { on := 9, ground := Go.Ground.data }, { on := 5, ground := Go.Ground.chain }], guard := none }) rfl (fun K hK => ?opz13) ?nilz14
                case opz13 =>
                  refine step_append_lies _ rfl _ _ _ rfl w1.heap.size 3 itemJ (.int .i64 0) 1 8 Tryd.underlying55 kk1 kk2 kk3 kk4 rfl (by omega) _ vs.length _ rfl (own_below Lz11.out (by repeat (first | (with_reducible exact Below.refl _ _) | (with_reducible refine Below.drew ?_) | (with_reducible refine Below.alloc ?_ (by simp) _)))) ⟨w2.heap.size + 1, 0, none⟩ 1 1 [.int .i64 n'] rfl rfl (World.news_of_block Nz11.out) ?smz13 (by omega) (by unfold maxLen; omega) (by omega) (by first | omega | (simp; omega)) _ rfl ?_
                  case smz13 => (intro u hu; simp only [List.mem_cons, List.not_mem_nil, or_false] at hu; subst hu; rfl)
                  intro g2 cap2 yz13 hown2 hg2 hat2 hlt2
                  have KF := Lib.hid ((Kz11.out.trans (Kp.of (by repeat (first | (with_reducible exact Below.refl _ _) | (with_reducible refine Below.drew ?_) | (with_reducible refine Below.alloc ?_ (by simp) _))) (by omega))).grownNew hg2 (own_below Lz11.out (by repeat (first | (with_reducible exact Below.refl _ _) | (with_reducible refine Below.drew ?_) | (with_reducible refine Below.alloc ?_ (by simp) _)))) hw1 hB)
                  have OF := Lib.hid (grown_other (own_below Oz11.out (by repeat (first | (with_reducible exact Below.refl _ _) | (with_reducible refine Below.drew ?_) | (with_reducible refine Below.alloc ?_ (by simp) _)))) hg2 (own_below Lz11.out (by repeat (first | (with_reducible exact Below.refl _ _) | (with_reducible refine Below.drew ?_) | (with_reducible refine Below.alloc ?_ (by simp) _)))) (by decide))
                  have VF := Lib.hid (show IRow yz13 (.slice (some ⟨g2, 0, none⟩) (vs.length + 1) cap2) (vs ++ [n']) from own_more (B' := 0) (by simpa using hown2) (Nat.zero_le _))
                  have SF := Lib.hid (show yz13.cell? ⟨w.heap.size, 1, none⟩ = some (.int .i64 n') from (World.cell?_of_block (a := ⟨w.heap.size, 1, none⟩) (hg2.block w.heap.size (by first | omega | (simp; omega)) fun e => by have := (Lz11.out.lt _ e.symm).1; omega)).trans (SCz11.out _ (by repeat (first | (with_reducible exact Below.refl _ _) | (with_reducible refine Below.drew ?_) | (with_reducible refine Below.alloc ?_ (by simp) _)))))
                  refine hK.out _ _ ?Sz13 (fun hHz13 => ?Rz13)
                  case Sz13 => exact SF.out
                  clear hK K hown2 hg2 hat2
                  try simp only [Act.put, List.setIfInBounds_toArray, List.set_cons_zero, List.set_cons_succ]
                  refine wpAnyH_take (i := 11) (oi := { dst := some 6, op := Go.Op.assign (Go.Operand.tmp 36), type := 27, pos := "ref.go:31", after := #[{ on := 5, ground := Go.Ground.data }, { on := 10, ground := Go.Ground.chain }, { on := 0, ground := Go.Ground.phase }, { on := 1, ground := Go.Ground.phase }, { on := 2, ground := Go.Ground.phase }, { on := 3, ground := Go.Ground.phase }, { on := 4, ground := Go.Ground.phase }, { on := 5, ground := Go.Ground.phase }, { on := 6, ground := Go.Ground.textOnly Go.Departure.lateStores }, { on := 7, ground := Go.Ground.textOnly Go.Departure.lateStores }, { on := 8, ground := Go.Ground.textOnly Go.Departure.lateStores }, { on := 9, ground := Go.Ground.textOnly Go.Departure.lateStores }, { on := 10, ground := Go.Ground.textOnly Go.Departure.lateStoresUnsure }], guard := none }) (v := ?vz1311) rfl (by kernel_rfl) (by kernel_rfl) (by kernel_rfl) (fun _ _ _ h => h) (Or.inl ⟨by rfl, ?hyz1311⟩) (by assumption) ?restz1311
                  case hyz1311 => (intro w hSw; (try dsimp only at hSw); go_simp; try with_reducible rfl)
                  try simp only [Act.put, List.setIfInBounds_toArray, List.set_cons_zero, List.set_cons_succ]
                  refine wpAnyH_take (i := 12) (oi := { dst := some 7, op := Go.Op.assign (Go.Operand.tmp 41), type := 55, pos := "ref.go:31", after := #[{ on := 10, ground := Go.Ground.data }, { on := 11, ground := Go.Ground.chain }, { on := 0, ground := Go.Ground.phase }, { on := 1, ground := Go.Ground.phase }, { on := 2, ground := Go.Ground.phase }, { on := 3, ground := Go.Ground.phase }, { on := 4, ground := Go.Ground.phase }, { on := 5, ground := Go.Ground.phase }, { on := 6, ground := Go.Ground.phase }, { on := 7, ground := Go.Ground.phase }, { on := 8, ground := Go.Ground.phase }, { on := 9, ground := Go.Ground.phase }, { on := 10, ground := Go.Ground.phase }, { on := 11, ground := Go.Ground.phase }], guard := none }) (v := ?vz1312) rfl (by kernel_rfl) (by kernel_rfl) (by kernel_rfl) (fun _ _ _ h => h) (Or.inl ⟨by rfl, ?hyz1312⟩) (by assumption) ?restz1312
                  case hyz1312 => (intro w hSw; (try dsimp only at hSw); go_simp; try with_reducible rfl)
                  try simp only [Act.put, List.setIfInBounds_toArray, List.set_cons_zero, List.set_cons_succ]
                  refine wpAnyH_done (by kernel_rfl) ?_ _
                  go_wp2_with fail
                  go_ret2
                  exact ⟨_, _, rfl, by rw [HC.out]; exact OF.out, by rw [HC.out]; exact VF.out, KF.out⟩
                case nilz14 => exact AllReadyH.nil
              case nilz12 => exact AllReadyH.nil
            case nilz6 => exact AllReadyH.nil
        case nxz2 =>
          refine AllReadyH.cons (o := { dst := some 40, op := Go.Op.buildSlice 55 1 #[(0, Go.Operand.tmp 39)], type := 55, pos := "ref.go:31", after := #[{ on := 8, ground := Go.Ground.data }], guard := none }) rfl (fun K hK => ?opz2) ?nilz3
          case opz2 =>
            go_simp
            refine hK.out _ _ ?Sz2 (fun hHz2 => ?Rz2)
            case Sz2 => exact SC0.out _ (by repeat (first | (with_reducible exact Below.refl _ _) | (with_reducible refine Below.drew ?_) | (with_reducible refine Below.alloc ?_ (by simp) _)))
            clear hK K
            try simp only [Act.put, List.setIfInBounds_toArray, List.set_cons_zero, List.set_cons_succ]
            refine wpAnyH_ready (rs := [4]) (by kernel_rfl) (by simp) ?_
            refine AllReadyH.cons (o := { dst := some 35, op := Go.Op.buildSlice 27 1 #[(0, Go.Operand.tmp 34)], type := 27, pos := "ref.go:31", after := #[{ on := 3, ground := Go.Ground.data }], guard := none }) rfl (fun K hK => ?opz15) ?nilz16
            case opz15 =>
              go_simp
              refine hK.out _ _ ?Sz15 (fun hHz15 => ?Rz15)
              case Sz15 => exact SC0.out _ (by repeat (first | (with_reducible exact Below.refl _ _) | (with_reducible refine Below.drew ?_) | (with_reducible refine Below.alloc ?_ (by simp) _)))
              clear hK K
              try simp only [Act.put, List.setIfInBounds_toArray, List.set_cons_zero, List.set_cons_succ]
              refine wpAnyH_ready (rs := [5]) (by kernel_rfl) (by simp) ?_
              refine AllReadyH.cons (o := { dst := some 36, op := Go.Op.call { callee := Go.Callee.builtin Go.Builtin.append, args := #[Go.Operand.tmp 31, Go.Operand.tmp 35], argTypes := #[27, 27] }, type := 27, pos := "ref.go:31", after := #[{ on := 0, ground := Go.Ground.data }, { on := 4, ground := Go.Ground.data }], guard := none }) rfl (fun K hK => ?opz17) ?nilz18
              case opz17 =>
                skip
                refine step_append_lies _ rfl _ _ _ rfl B 50 itemI (.agg #[.int .i64 0, .int .i64 0, .string ⟨#[]⟩]) 3 32 Tryd.underlying27 jj1 jj2 jj3 jj4 rfl (by omega) _ l.length _ rfl (own_below O2.out (by repeat (first | (with_reducible exact Below.refl _ _) | (with_reducible refine Below.drew ?_) | (with_reducible refine Below.alloc ?_ (by simp) _)))) ⟨w2.heap.size + 1, 0, none⟩ 1 1 [.int .i64 2, .int .i64 (vs.length : Int), .string ⟨#[]⟩] rfl rfl (World.news_of_block (heap_at _ _ (by simp))) ?smz17 (by omega) (by unfold maxLen; omega) (by omega) (by simp; omega) _ rfl ?_
                case smz17 => (intro u hu; simp only [List.mem_cons, List.not_mem_nil, or_false] at hu; rcases hu with rfl | rfl | rfl <;> rfl)
                intro g1 cap1 yz17 hown1 hg1 hat1 hlt1
                have Kz17 := Lib.hid ((K2.out.trans (Kp.of (by repeat (first | (with_reducible exact Below.refl _ _) | (with_reducible refine Below.drew ?_) | (with_reducible refine Below.alloc ?_ (by simp) _))) (by omega))).trans (Kp.grown hg1 (own_below O2.out (by repeat (first | (with_reducible exact Below.refl _ _) | (with_reducible refine Below.drew ?_) | (with_reducible refine Below.alloc ?_ (by simp) _)))) (by simp; omega)))
                have Lz17 := Lib.hid (((Kp.of (B := B) (by repeat (first | (with_reducible exact Below.refl _ _) | (with_reducible refine Below.drew ?_) | (with_reducible refine Below.alloc ?_ (by simp) _))) (by omega)).trans (Kp.grown hg1 (own_below O2.out (by repeat (first | (with_reducible exact Below.refl _ _) | (with_reducible refine Below.drew ?_) | (with_reducible refine Below.alloc ?_ (by simp) _)))) (by simp; omega))).own L2.out (by decide))
                have Oz17 := Lib.hid (show IRw yz17 B (.slice (some ⟨g1, 0, none⟩) (l.length + 1) cap1) (l ++ [⟨2, (vs.length : Int), ⟨#[]⟩⟩]) by unfold IRw; rw [← insCells_app, List.length_append]; exact hown1)
                have hzz17 := Kz17.out.size
                have hyz17 : w2.heap.size ≤ yz17.heap.size := Kp.size (B := B) (w := w2) (w' := yz17) ((Kp.of (by repeat (first | (with_reducible exact Below.refl _ _) | (with_reducible refine Below.drew ?_) | (with_reducible refine Below.alloc ?_ (by simp) _))) (by omega)).trans (Kp.grown hg1 (own_below O2.out (by repeat (first | (with_reducible exact Below.refl _ _) | (with_reducible refine Below.drew ?_) | (with_reducible refine Below.alloc ?_ (by simp) _)))) (by simp; omega)))
                have SCz17 := Lib.hid (show ∀ u, Below yz17.heap.size yz17 u → u.cell? ⟨w.heap.size, 1, none⟩ = some (.int .i64 n') from fun u hu => (hu.cell (p := ⟨w.heap.size, 1, none⟩) (heap_lt (((Kp.of (B := B) (by repeat (first | (with_reducible exact Below.refl _ _) | (with_reducible refine Below.drew ?_) | (with_reducible refine Below.alloc ?_ (by simp) _))) (by omega)).trans (Kp.grown hg1 (own_below O2.out (by repeat (first | (with_reducible exact Below.refl _ _) | (with_reducible refine Below.drew ?_) | (with_reducible refine Below.alloc ?_ (by simp) _)))) (by simp; omega))).keep _ _ _ _ HB2.out (by decide)))).trans (box4t (((Kp.of (B := B) (by repeat (first | (with_reducible exact Below.refl _ _) | (with_reducible refine Below.drew ?_) | (with_reducible refine Below.alloc ?_ (by simp) _))) (by omega)).trans (Kp.grown hg1 (own_below O2.out (by repeat (first | (with_reducible exact Below.refl _ _) | (with_reducible refine Below.drew ?_) | (with_reducible refine Below.alloc ?_ (by simp) _)))) (by simp; omega))).keep _ _ _ _ HB2.out (by decide))).2.1)
                have Nz17 := Lib.hid (show yz17.heap[w2.heap.size]? = some (.cells #[.int .i64 n'] 3 (0, 0)) from (Kp.grown hg1 (own_below O2.out (by repeat (first | (with_reducible exact Below.refl _ _) | (with_reducible refine Below.drew ?_) | (with_reducible refine Below.alloc ?_ (by simp) _)))) (by simp; omega)).keep _ _ _ _ ((Below.heap_alloc _ _ _ (by simp)).trans (heap_at _ _ (by simp))) (by decide))
                refine hK.out _ _ ?Sz17 (fun hHz17 => ?Rz17)
                case Sz17 => exact SCz17.out _ (by repeat (first | (with_reducible exact Below.refl _ _) | (with_reducible refine Below.drew ?_) | (with_reducible refine Below.alloc ?_ (by simp) _)))
                clear hK K hown1 hg1 hat1
                try simp only [Act.put, List.setIfInBounds_toArray, List.set_cons_zero, List.set_cons_succ]
                refine wpAnyH_ready (rs := [10]) (by kernel_rfl) (by simp) ?_
                refine AllReadyH.cons (o := { dst := some 41, op := Go.Op.call { callee := Go.Callee.builtin Go.Builtin.append, args := #[Go.Operand.tmp 37, Go.Operand.tmp 40], argTypes := #[55, 55] }, type := 55, pos := "ref.go:31", after := #[{ on := 6, ground := Go.Ground.data }, { on := 9, ground := Go.Ground.data }, { on := 5, ground := Go.Ground.chain }], guard := none }) rfl (fun K hK => ?opz19) ?nilz20
                case opz19 =>
                  refine step_append_lies _ rfl _ _ _ rfl w1.heap.size 3 itemJ (.int .i64 0) 1 8 Tryd.underlying55 kk1 kk2 kk3 kk4 rfl (by omega) _ vs.length _ rfl (own_below Lz17.out (by repeat (first | (with_reducible exact Below.refl _ _) | (with_reducible refine Below.drew ?_) | (with_reducible refine Below.alloc ?_ (by simp) _)))) ⟨w2.heap.size, 0, none⟩ 1 1 [.int .i64 n'] rfl rfl (World.news_of_block Nz17.out) ?smz19 (by omega) (by unfold maxLen; omega) (by omega) (by first | omega | (simp; omega)) _ rfl ?_
                  case smz19 => (intro u hu; simp only [List.mem_cons, List.not_mem_nil, or_false] at hu; subst hu; rfl)
                  intro g2 cap2 yz19 hown2 hg2 hat2 hlt2
                  have KF := Lib.hid ((Kz17.out.trans (Kp.of (by repeat (first | (with_reducible exact Below.refl _ _) | (with_reducible refine Below.drew ?_) | (with_reducible refine Below.alloc ?_ (by simp) _))) (by omega))).grownNew hg2 (own_below Lz17.out (by repeat (first | (with_reducible exact Below.refl _ _) | (with_reducible refine Below.drew ?_) | (with_reducible refine Below.alloc ?_ (by simp) _)))) hw1 hB)
                  have OF := Lib.hid (grown_other (own_below Oz17.out (by repeat (first | (with_reducible exact Below.refl _ _) | (with_reducible refine Below.drew ?_) | (with_reducible refine Below.alloc ?_ (by simp) _)))) hg2 (own_below Lz17.out (by repeat (first | (with_reducible exact Below.refl _ _) | (with_reducible refine Below.drew ?_) | (with_reducible refine Below.alloc ?_ (by simp) _)))) (by decide))
                  have VF := Lib.hid (show IRow yz19 (.slice (some ⟨g2, 0, none⟩) (vs.length + 1) cap2) (vs ++ [n']) from own_more (B' := 0) (by simpa using hown2) (Nat.zero_le _))
                  have SF := Lib.hid (show yz19.cell? ⟨w.heap.size, 1, none⟩ = some (.int .i64 n') from (World.cell?_of_block (a := ⟨w.heap.size, 1, none⟩) (hg2.block w.heap.size (by first | omega | (simp; omega)) fun e => by have := (Lz17.out.lt _ e.symm).1; omega)).trans (SCz17.out _ (by repeat (first | (with_reducible exact Below.refl _ _) | (with_reducible refine Below.drew ?_) | (with_reducible refine Below.alloc ?_ (by simp) _)))))
                  refine hK.out _ _ ?Sz19 (fun hHz19 => ?Rz19)
                  case Sz19 => exact SF.out
                  clear hK K hown2 hg2 hat2
                  try simp only [Act.put, List.setIfInBounds_toArray, List.set_cons_zero, List.set_cons_succ]
                  refine wpAnyH_take (i := 11) (oi := { dst := some 6, op := Go.Op.assign (Go.Operand.tmp 36), type := 27, pos := "ref.go:31", after := #[{ on := 5, ground := Go.Ground.data }, { on := 10, ground := Go.Ground.chain }, { on := 0, ground := Go.Ground.phase }, { on := 1, ground := Go.Ground.phase }, { on := 2, ground := Go.Ground.phase }, { on := 3, ground := Go.Ground.phase }, { on := 4, ground := Go.Ground.phase }, { on := 5, ground := Go.Ground.phase }, { on := 6, ground := Go.Ground.textOnly Go.Departure.lateStores }, { on := 7, ground := Go.Ground.textOnly Go.Departure.lateStores }, { on := 8, ground := Go.Ground.textOnly Go.Departure.lateStores }, { on := 9, ground := Go.Ground.textOnly Go.Departure.lateStores }, { on := 10, ground := Go.Ground.textOnly Go.Departure.lateStoresUnsure }], guard := none }) (v := ?vz1911) rfl (by kernel_rfl) (by kernel_rfl) (by kernel_rfl) (fun _ _ _ h => h) (Or.inl ⟨by rfl, ?hyz1911⟩) (by assumption) ?restz1911
                  case hyz1911 => (intro w hSw; (try dsimp only at hSw); go_simp; try with_reducible rfl)
                  try simp only [Act.put, List.setIfInBounds_toArray, List.set_cons_zero, List.set_cons_succ]
                  refine wpAnyH_take (i := 12) (oi := { dst := some 7, op := Go.Op.assign (Go.Operand.tmp 41), type := 55, pos := "ref.go:31", after := #[{ on := 10, ground := Go.Ground.data }, { on := 11, ground := Go.Ground.chain }, { on := 0, ground := Go.Ground.phase }, { on := 1, ground := Go.Ground.phase }, { on := 2, ground := Go.Ground.phase }, { on := 3, ground := Go.Ground.phase }, { on := 4, ground := Go.Ground.phase }, { on := 5, ground := Go.Ground.phase }, { on := 6, ground := Go.Ground.phase }, { on := 7, ground := Go.Ground.phase }, { on := 8, ground := Go.Ground.phase }, { on := 9, ground := Go.Ground.phase }, { on := 10, ground := Go.Ground.phase }, { on := 11, ground := Go.Ground.phase }], guard := none }) (v := ?vz1912) rfl (by kernel_rfl) (by kernel_rfl) (by kernel_rfl) (fun _ _ _ h => h) (Or.inl ⟨by rfl, ?hyz1912⟩) (by assumption) ?restz1912
                  case hyz1912 => (intro w hSw; (try dsimp only at hSw); go_simp; try with_reducible rfl)
                  try simp only [Act.put, List.setIfInBounds_toArray, List.set_cons_zero, List.set_cons_succ]
                  refine wpAnyH_done (by kernel_rfl) ?_ _
                  go_wp2_with fail
                  go_ret2
                  exact ⟨_, _, rfl, by rw [HC.out]; exact OF.out, by rw [HC.out]; exact VF.out, KF.out⟩
                case nilz20 => exact AllReadyH.nil
              case nilz18 => exact AllReadyH.nil
            case nilz16 => exact AllReadyH.nil
          case nilz3 => exact AllReadyH.nil
    | false =>
      cases h2 : (k' == 2) with
      | true =>
        have HC := Lib.hid (show codeT (.mk k' n' s' m' a) vs = ([⟨4, n', ⟨#[]⟩⟩], vs) by
          have : k' = 2 := by simpa using h2
          subst this; rfl)
        go_enter Tryd.func22, Tryd.ntmps22
        go_wp2_with (at_builtin; go_must (refine wpList_append_at _ rfl _ _ _ rfl elIns B _ l.length (insCells l) rfl ((HO.out.alloc _).alloc _) (some ⟨w.heap.size + 1, 0, none⟩) 1 1 (insCells [⟨4, n', ⟨#[]⟩⟩]) rfl (fun h => by cases h) (Nat.le_refl _) rfl (fun _ => ⟨_, 0, rfl, fun j u hu => ?_⟩) (insCells_small _) (by omega) (by unfold maxLen; omega) (by simp; omega) ?_))
        · simpa [insCells, Ins.cells] using hu
        intro v1 w1 hown1 hg1 hat1
        have O1 := Lib.hid (show IRw w1 B v1 (l ++ [⟨4, n', ⟨#[]⟩⟩]) by
          unfold IRw
          rw [← insCells_app, List.length_append]
          exact hown1)
        have K1 := Lib.hid ((Kp.of (((Below.refl _ _).alloc (Nat.le_refl _) (Obj.cells #[.int .i64 k', .int .i64 n', .string s', .slice A m' c] 24)).alloc (by simp) (Obj.cells #[.int .i64 4, .int .i64 n', .string ⟨#[]⟩] 50)) hB).trans (Kp.grown hg1 ((HO.out.alloc _).alloc _) (by simp; omega)))
        clear hown1 hg1 hat1
        have V1 := Lib.hid (K1.out.irow HVS.out)
        go_wp2_with fail
        go_ret2
        exact ⟨_, _, rfl, by rw [HC.out]; exact O1.out, by rw [HC.out]; exact V1.out, K1.out⟩
      | false =>
        cases h3 : (k' == 3) with
        | true =>
          have HC := Lib.hid (show codeT (.mk k' n' s' m' a) vs = ([⟨5, 0, s'⟩], vs) by
            have : k' = 3 := by simpa using h3
            subst this; rfl)
          go_enter Tryd.func22, Tryd.ntmps22
          go_wp2_with (at_builtin; go_must (refine wpList_append_at _ rfl _ _ _ rfl elIns B _ l.length (insCells l) rfl ((HO.out.alloc _).alloc _) (some ⟨w.heap.size + 1, 0, none⟩) 1 1 (insCells [⟨5, 0, s'⟩]) rfl (fun h => by cases h) (Nat.le_refl _) rfl (fun _ => ⟨_, 0, rfl, fun j u hu => ?_⟩) (insCells_small _) (by omega) (by unfold maxLen; omega) (by simp; omega) ?_))
          · simpa [insCells, Ins.cells] using hu
          intro v1 w1 hown1 hg1 hat1
          have O1 := Lib.hid (show IRw w1 B v1 (l ++ [⟨5, 0, s'⟩]) by
            unfold IRw
            rw [← insCells_app, List.length_append]
            exact hown1)
          have K1 := Lib.hid ((Kp.of (((Below.refl _ _).alloc (Nat.le_refl _) (Obj.cells #[.int .i64 k', .int .i64 n', .string s', .slice A m' c] 24)).alloc (by simp) (Obj.cells #[.int .i64 5, .int .i64 0, .string s'] 50)) hB).trans (Kp.grown hg1 ((HO.out.alloc _).alloc _) (by simp; omega)))
          clear hown1 hg1 hat1
          have V1 := Lib.hid (K1.out.irow HVS.out)
          go_wp2_with fail
          go_ret2
          exact ⟨_, _, rfl, by rw [HC.out]; exact O1.out, by rw [HC.out]; exact V1.out, K1.out⟩
        | false =>
          have hk4 : k' = 4 := by
            rcases HOK.out.1.1 with h | h | h | h
            · exact absurd h.1 (by simpa using h1)
            · exact absurd h.1 (by simpa using h2)
            · exact absurd h.1 (by simpa using h3)
            · exact h.1
          subst hk4
          obtain ⟨F, hF⟩ : ∃ F : Nat → List Ins × List Int, ∀ q, F q = foldC q (fun i => codeT (a i)) ([⟨6, (m' : Int), s'⟩], vs) := ⟨_, fun _ => rfl⟩
          have HC := Lib.hid (show codeT (.mk 4 n' s' m' a) vs = F m' from (hF m').symm)
          have HF0 := Lib.hid (show F 0 = ([⟨6, (m' : Int), s'⟩], vs) from hF 0)
          have HFS := Lib.hid (show ∀ q, F (q + 1) = ((F q).1 ++ (codeT (a q) (F q).2).1, (codeT (a q) (F q).2).2) from fun q => by rw [hF, hF]; rfl)
          have HFL := Lib.hid (show ∀ q, q ≤ m' → (F q).1.length = 1 + sumTo q (fun i => (a i).nodes) ∧ (F q).2.length ≤ vs.length + (1 + sumTo q (fun i => (a i).nodes)) from by
            intro q
            induction q with
            | zero => intro _; rw [hF]; simp [foldC, sumTo]
            | succ q ihq =>
              intro hq
              obtain ⟨i1, i2⟩ := ihq (by omega)
              obtain ⟨j1, j2⟩ := codeT_len (a q) ((HOK.out.arg (by omega)).1.kinds) (F q).2
              rw [HFS.out]
              simp only [sumTo, List.length_append]
              exact ⟨by omega, by omega⟩)
          have HSum := Lib.hid (show ∀ q, q < m' → 1 + sumTo q (fun i => (a i).nodes) + (a q).nodes ≤ (T.mk 4 n' s' m' a).nodes from fun q hq => by
            have := sumTo_le (fun i => (a i).nodes) (show q + 1 ≤ m' by omega)
            simp only [sumTo] at this
            simp only [T.nodes]
            omega)
          clear hF
          go_enter Tryd.func22, Tryd.ntmps22
          go_wp2_with (at_builtin; go_must (refine wpList_append_at _ rfl _ _ _ rfl elIns B _ l.length (insCells l) rfl ((HO.out.alloc _).alloc _) (some ⟨w.heap.size + 1, 0, none⟩) 1 1 (insCells [⟨6, (m' : Int), s'⟩]) rfl (fun h => by cases h) (Nat.le_refl _) rfl (fun _ => ⟨_, 0, rfl, fun j u hu => ?_⟩) (insCells_small _) (by omega) (by unfold maxLen; omega) (by simp; omega) ?_))
          · simpa [insCells, Ins.cells] using hu
          intro v1 w1 hown1 hg1 hat1
          have O1 := Lib.hid (show IRw w1 B v1 (l ++ [⟨6, (m' : Int), s'⟩]) by
            unfold IRw
            rw [← insCells_app, List.length_append]
            exact hown1)
          have K1 := Lib.hid ((Kp.of (((Below.refl _ _).alloc (Nat.le_refl _) (Obj.cells #[.int .i64 4, .int .i64 n', .string s', .slice A m' c] 24)).alloc (by simp) (Obj.cells #[.int .i64 6, .int .i64 (m' : Int), .string s'] 50)) hB).trans (Kp.grown hg1 ((HO.out.alloc _).alloc _) (by simp; omega)))
          have HB1 := Lib.hid (show w1.heap[w.heap.size]? = some (.cells #[.int .i64 4, .int .i64 n', .string s', .slice A m' c] 24 (0, 0)) from (Kp.grown hg1 ((HO.out.alloc _).alloc _) (by simp; omega)).keep _ _ _ _ ((Below.heap_alloc _ _ _ (by simp)).trans (heap_alloc_new _ _)) (by decide))
          clear hown1 hg1 hat1
          have V1 := Lib.hid (K1.out.irow HVS.out)
          go_wp2_with fail
          go_loopw [0, 2, 10] (fun oq vq iv wr => ∃ i : Nat, iv = .int .i64 (i : Int) ∧ i ≤ m' ∧ IRw wr B oq (l ++ (F i).1) ∧ IRow wr vq (F i).2 ∧ Kp B w wr ∧ wr.heap[w.heap.size]? = some (.cells #[.int .i64 4, .int .i64 n', .string s', .slice A m' c] 24 (0, 0))) (fun _ _ iv _ => m' - (intOf iv).toNat)
          case atStart => exact ⟨0, rfl, Nat.zero_le _, by rw [HF0.out]; exact O1.out, by rw [HF0.out]; exact V1.out, K1.out, HB1.out⟩
          case round =>
            obtain ⟨i, rfl, hi, ho2, hv2, hk2, hbox⟩ := hrel
            obtain ⟨L2, hL2⟩ : ∃ L2, L2 = l ++ (F i).1 := ⟨_, rfl⟩
            obtain ⟨N2, hN2⟩ : ∃ N2, N2 = (F i).2 := ⟨_, rfl⟩
            rw [← hL2] at ho2
            rw [← hN2] at hv2
            have HL2 := Lib.hid hL2
            have HN2 := Lib.hid hN2
            clear hL2 hN2
            have O2 := Lib.hid ho2
            have V2 := Lib.hid hv2
            have K2 := Lib.hid hk2
            have HB2 := Lib.hid hbox
            have hl2 := heap_lt hbox
            obtain ⟨x0, x1, x2, x3⟩ := box4t hbox
            obtain ⟨AO, co, rfl, hco, _, _, _⟩ := own_open ho2
            obtain ⟨AQ, cq, rfl, _, _, _⟩ := hv2.open_
            clear ho2 hv2 hk2 hbox
            by_cases him : i < m'
            · have him' : (i : Int) < (m' : Int) := by omega
              obtain ⟨_, _, _, _, _, _, hargs⟩ := (K2.out.tp HV.out).args
              obtain ⟨g, k0, k1, k2, A0, m0, c0, rfl, hgS, hg, d0, d1, d2, d3, ht⟩ := hargs i him
              have hs1 := HSum.out i him
              obtain ⟨f1, f2⟩ := HFL.out i (by omega)
              have CI := Lib.hid (IH.out i (HOK.out.arg him) B _ _ _ _ _ wr S ht O2.out V2.out (by have := K2.out.size; omega) (by rw [HL2.out, List.length_append, f1]; omega) (by rw [HN2.out]; omega))
              clear hargs ht f1 f2 hs1
              go_wp2_with fail
              refine CI.out.mono ?_
              rintro e w2 ⟨ov3, vv3, rfl, ho3, hv3, hk3⟩
              have O3 := Lib.hid (show IRw w2 B ov3 (l ++ (F (i + 1)).1) by rw [HFS.out, ← List.append_assoc, ← HL2.out, ← HN2.out]; exact ho3)
              have V3 := Lib.hid (show IRow w2 vv3 (F (i + 1)).2 by rw [HFS.out, ← HN2.out]; exact hv3)
              have K3 := Lib.hid (K2.out.trans hk3)
              have HB3 := Lib.hid (hk3.keep _ _ _ _ HB2.out (by decide))
              clear ho3 hv3 hk3 CI x0 x1 x2 x3
              go_wp2_with fail
              go_roundw
              case rel => exact ⟨i + 1, by go_num, him, O3.out, V3.out, K3.out, HB3.out⟩
              case measure => simp [intOf]; omega
            · have him' : ¬ (i : Int) < (m' : Int) := by omega
              have hin : i = m' := by omega
              have E := Lib.hid (show F i = F m' by rw [hin])
              clear hin
              go_wp2_with fail
              go_ret2
              exact ⟨_, _, rfl, by rw [HC.out, ← E.out, ← HL2.out]; exact O2.out, by rw [HC.out, ← E.out, ← HN2.out]; exact V2.out, K2.out⟩
end Go.Proofs.YtlgeepjlnjlgdaaDoor
