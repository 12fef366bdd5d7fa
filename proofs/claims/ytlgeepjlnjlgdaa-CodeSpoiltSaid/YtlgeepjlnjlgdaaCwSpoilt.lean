/- The walk through the law CodeSpoilt. -/
import Derived.Test.YtlgeepjlnjlgdaaGk
import Derived.Test.YtlgeepjlnjlgdaaGg
import Derived.Test.YtlgeepjlnjlgdaaDq4
import Derived.Deep.CutBlock
namespace Go.Proofs.Ytlgeepjlnjlgdaa
open Go.RowKit

/-- Instructions of which one is taken out, or stands twice. -/
def spoil (l : List Ins) (k : Nat) (tw : Bool) : List Ins := l.take k ++ (if tw then [l.getD k ⟨0, 0, ⟨#[]⟩⟩, l.getD k ⟨0, 0, ⟨#[]⟩⟩] else []) ++ l.drop (k + 1)
theorem spoil_len {l : List Ins} {k : Nat} {tw : Bool} (h : k < l.length) : (spoil l k tw).length ≠ l.length ∧ (spoil l k tw).length ≤ l.length + 1 := by
  unfold spoil
  rw [List.length_append, List.length_append, List.length_take, List.length_drop]
  cases tw with
  | true => simp only [if_true, List.length_cons, List.length_nil]; omega
  | false => simp only [Bool.false_eq_true, if_false, List.length_nil]; omega
theorem spoil_in {l : List Ins} {k : Nat} {tw : Bool} (h : k < l.length) {P : Ins → Prop} (hl : ∀ x ∈ l, P x) : ∀ x ∈ spoil l k tw, P x := by
  intro x hx
  unfold spoil at hx
  rcases List.mem_append.1 hx with hx | hx
  · rcases List.mem_append.1 hx with hx | hx
    · exact hl x (List.mem_of_mem_take hx)
    · cases tw with
      | true =>
        have e : l.getD k ⟨0, 0, ⟨#[]⟩⟩ = l[k] := by rw [List.getD_eq_getElem?_getD, List.getElem?_eq_getElem h, Option.getD_some]
        rw [if_pos rfl, e] at hx
        have hx' : x = l[k] := by simpa using hx
        rw [hx']
        exact hl _ (List.getElem_mem h)
      | false => rw [if_neg (by decide)] at hx; cases hx
  · exact hl x (List.mem_of_mem_drop hx)
theorem IRw.cap {w : World} {B : Nat} {A : Option Addr} {n c : Nat} {l : List Ins} (h : IRw w B (.slice A n c) l) : n ≤ c := by
  obtain ⟨A', c', he, hc, _⟩ := h.all
  injection he with _ e2 e3
  omega
theorem whole_ok2 {th : T} {gs : List T} (h : th.ok) (hg : ∀ g ∈ gs, g.ok) (hs : 1 + th.nodes + nodesL gs ≤ 4000) : (wholeT th gs).ok := by
  have hs1 := sum_list (th :: gs)
  refine ⟨⟨.inr (.inr (.inr ⟨rfl, rfl, by decide, by omega⟩)), fun i hi => ?_⟩, ?_⟩
  · have hi' : i < (th :: gs).length := by simpa using hi
    simp only [List.getD_eq_getElem?_getD, List.getElem?_eq_getElem hi', Option.getD_some]
    rcases List.mem_cons.1 (List.getElem_mem hi') with h1 | h1
    · rw [h1]; exact h.1
    · exact (hg _ h1).1
  · show 1 + sumTo (gs.length + 1) (fun i => ((th :: gs).getD i .nil).nodes) ≤ 4000
    have e : sumTo (gs.length + 1) (fun i => ((th :: gs).getD i .nil).nodes) = nodesL (th :: gs) := hs1
    rw [e]
    simp only [nodesL, List.map_cons, List.sum_cons] at hs ⊢
    omega
theorem dec_is {rd : Nat → Option (T × Nat)} {l : List Ins} {h : T} {gs : List T} (hd : decR rd l = some (h, gs)) : encN h gs = l := by
  unfold decR at hd
  cases hr : rd 1 with
  | none => rw [hr] at hd; cases hd
  | some p =>
    obtain ⟨h', i⟩ := p
    rw [hr] at hd
    dsimp only at hd
    split at hd
    · cases hg : goalsR rd l l.length [] i with
      | none => rw [hg] at hd; cases hd
      | some q =>
        obtain ⟨gs', j⟩ := q
        rw [hg] at hd
        dsimp only at hd
        split at hd
        · rename_i he
          injection hd with hd
          injection hd with h1 h2
          subst h1; subst h2
          exact he
        · cases hd
    · cases hd
set_option maxRecDepth 100000 in
set_option maxHeartbeats 8000000 in
theorem codespoilt_any (s : ByteArray) (a1 : Int) (ha0 : 0 ≤ a1) (ha1 : a1 < 256) (tw : Bool) (w : World) : Calls Try.prog 5 #[.string s, .int .u8 a1, .bool tw] w fun e w' => e = .returned (.bool true) ∧ Below w.heap.size w w' := by
  go_enter Try.func5, Try.ntmps5
  go_wp2_with fail
  refine (clause_any s w).mono ?_
  rintro e w1 ⟨⟨h0, h1, h2, h3, h4, h5, gv, is, rfl, hcl⟩, hb1⟩
  have CL := Lib.hid hcl
  have B1 := Lib.hid hb1
  have hw1 := hb1.size
  clear hcl hb1
  go_upto_if 26 with (fail)
  go_cut [] (fun wx => ∃ (th : T) (gs : List T) (S P : Nat → Prop) (B : Nat) (qs : List Q6) (h0 h1 : Int) (h2 : ByteArray) (h3 : Option Addr) (h4 h5 : Nat), ClM w wx w1.heap.size gv th gs S P B qs h0 h1 h2 h3 h4 h5)
  case first =>
    cases is with
    | true =>
      have hcl := CL.out
      rcases hcl with ⟨h, _⟩ | ⟨_, th, gs, B, S, P, qs, hS, hB, htp, htl, g1, g2, g3, g4, g5⟩
      · cases h
      · have CM := Lib.hid (show ClM w (w1.alloc (Obj.cells #[.int .i64 h0, .int .i64 h1, .string h2, .slice h3 h4 h5] 24)) w1.heap.size gv th gs S P B qs h0 h1 h2 h3 h4 h5 from
          ⟨heap_alloc_new _ _, htp.below ((Below.refl _ _).alloc (Nat.le_refl _) _), htl.below ((Below.refl _ _).alloc (Nat.le_refl _) _), hS, belA B1.out _, hw1, ⟨g1, g2, g3, g4⟩, g5⟩)
        clear hS hB htp htl g1 g2 g3 g4 g5
        go_wp2_with fail
        go_meet
        exact ⟨_, _, _, _, _, _, _, _, _, _, _, _, CM.out⟩
    | false =>
      have hcl := CL.out
      rcases hcl with ⟨_, rfl⟩ | ⟨h, _⟩
      · have CM := Lib.hid (show ClM w (w1.alloc (Obj.cells #[.int .i64 3, .int .i64 0, .string ⟨#[97]⟩, .slice none 0 0] 24)) w1.heap.size (.slice none 0 0) (T.mk 3 0 ⟨#[97]⟩ 0 fun _ => .nil) [] (fun _ => False) (fun _ => False) 0 [] 3 0 ⟨#[97]⟩ none 0 0 from
          ⟨heap_alloc_new _ _, TP.leaf _ _ _ _ _, TL.empty (World.ownsRow_nil _ _ _ _) (fun _ h => h.elim), fun _ h => h.elim, belA B1.out _, hw1, ⟨a_good, by simp, by rw [leaf_nodes]; decide, by simp [nodesL]⟩, Lib.hid ⟨.inl rfl, by rw [leaf_nodes]; decide, by simp, by rw [leaf_nodes]; decide⟩⟩)
        go_wp2_with fail
        go_meet
        exact ⟨_, _, _, _, _, _, _, _, _, _, _, _, CM.out⟩
      · cases h
  case rest =>
    clear CL
    obtain ⟨th, gs, S, P, B, qs, k0, k1, k2, k3, k4, k5, hcm⟩ := hcut
    have C2 := Lib.hid hcm
    obtain ⟨x0, x1, x2, x3⟩ := box4t hcm.box
    obtain ⟨A, c, rfl, hc, hA, _⟩ := hcm.tl.all
    have hx := heap_lt hcm.box
    obtain ⟨V, hV⟩ : ∃ V, V = varsT (wholeT th gs) := ⟨_, rfl⟩
    have CF := Lib.hid (cfacts hcm.good hcm.kc.out hV)
    obtain ⟨l, hl⟩ : ∃ l, l = encN th gs := ⟨_, rfl⟩
    have HL := Lib.hid hl
    have HLN := Lib.hid (show 2 < l.length ∧ l.length ≤ 3012 by
      refine ⟨?_, by rw [hl]; exact CF.out.len⟩
      rw [hl, enc_len hcm.good.1.kinds fun g hm => (hcm.good.2.1 g hm).kinds]
      have := hcm.good.1.pos
      omega)
    have HI1 := Lib.hid (show ∀ x ∈ l, InOne x by rw [hl]; exact CF.out.one)
    clear hcm hV
    have CE := Lib.hid (pencode_any CF.out.ok.1 CF.out.ok.2.1 C2.out.tp C2.out.tl (by have := C2.out.good.2.2.2; omega) (by have := CF.out.ok.2.2; omega))
    clear hl
    go_wp2_with fail
    refine CE.out.mono ?_
    rintro e w2 ⟨lv, rfl, hlr, hk⟩
    have C3 := Lib.hid (C2.out.below hk.low)
    have L2 := Lib.hid (show IRw w2 wc.heap.size lv l by rw [HL.out]; exact hlr)
    have CR := Lib.hid (rencode_any CF.out.ok.1 CF.out.ok.2.1 C3.out.tp C3.out.tl (by have := C2.out.good.2.2.2; omega) (by have := CF.out.ok.2.2; omega))
    obtain ⟨y0, y1, y2, y3⟩ := box4t C3.out.box
    have hx3 := heap_lt C3.out.box
    clear hlr hk CE x0 x1 x2 x3
    go_wp2_with fail
    refine CR.out.mono ?_
    rintro e w3 ⟨rv, rfl, hlr, hk⟩
    have C4 := Lib.hid (C3.out.below hk.low)
    have L3 := Lib.hid (own_below L2.out hk.low)
    have CQ := Lib.hid (isame_any w3 L3.out (show IRw w3 w2.heap.size rv l by rw [HL.out]; exact hlr) (by have := HLN.out.2; omega))
    clear hlr hk CR y0 y1 y2 y3
    go_wp2_with fail
    refine CQ.out.mono ?_
    rintro e w4 ⟨⟨qb, rfl, hqb⟩, hb4⟩
    obtain rfl : qb = true := hqb.2 (by first | rfl | trivial)
    have C5 := Lib.hid (C4.out.below hb4)
    have L4 := Lib.hid (show IRw w4 wc.heap.size lv l from own_below L3.out hb4)
    obtain ⟨gL, cL, rfl⟩ : ∃ gL cL, lv = .slice (some ⟨gL, 0, none⟩) l.length cL := by
      obtain ⟨A', c', he, _, _, _, hx⟩ := own_open L4.out
      obtain ⟨g, _, hA, _⟩ := hx (by have := HLN.out.1; omega)
      exact ⟨g, c', by rw [he, hA]⟩
    have hl0 : ¬ (l.length : Int) = 0 := by have := HLN.out.1; omega
    have hlb : (l.length : Int) ≤ 3012 := by have := HLN.out.2; omega
    have hlp : 0 < (l.length : Int) := by have := HLN.out.1; omega
    clear hqb hb4 CQ
    obtain ⟨k, hkk⟩ : ∃ k : Nat, a1 % (l.length : Int) = (k : Int) := ⟨(a1 % (l.length : Int)).toNat, (Int.toNat_of_nonneg (Int.emod_nonneg _ hl0)).symm⟩
    have hkl : k < l.length := by
      have := Int.emod_lt_of_pos a1 hlp
      omega
    have hcL : l.length ≤ cL := (IRw.cap L4.out)
    have hkc : k ≤ cL := by omega
    have hkc2 : (k : Int) ≤ (cL : Int) := by omega
    have hk1 : (k : Int) + 1 ≤ (l.length : Int) := by omega
    have hkn : (k : Int).toNat = k := Int.toNat_natCast k
    have CELLS := Lib.hid (show ∀ j u, (insCells l)[j]? = some u → w4.cell? ⟨gL, j, none⟩ = some u from by
      intro j u hj
      have hjl : j < (insCells l).length := by
        rcases Nat.lt_or_ge j (insCells l).length with h | h
        · exact h
        · rw [List.getElem?_eq_none h] at hj; cases hj
      rw [insCells_length] at hjl
      have hq : j / 3 < l.length := by omega
      obtain ⟨g', e3, _, hc'⟩ := insrow (i := j / 3) L4.out rfl hq
      injection e3 with e3
      injection e3 with e3
      have h1 := hc' (j % 3) (Nat.mod_lt _ (by omega))
      have h2 := insCells_at l (j / 3) hq (j % 3) (Nat.mod_lt _ (by omega))
      rw [← e3] at h1
      rw [show j / 3 * 3 + j % 3 = j by omega] at h1
      rw [show 3 * (j / 3) + j % 3 = j by omega] at h2
      rw [h1, ← h2, hj])
    have PRE := Lib.hid (show ∀ W, Below w4.heap.size w4 W → ∀ j u, (insCells (l.take k))[j]? = some u → W.cell? ⟨gL, 0 + j, none⟩ = some u from fun W hW j u hj => by
      have hgl := heap_lt (Go.Lib.ownsRow_kind L4.out gL rfl).choose_spec.choose_spec
      have e : (insCells l)[j]? = some u := by
        have : insCells l = insCells (l.take k) ++ insCells (l.drop k) := by rw [insCells_app, List.take_append_drop]
        rw [this, List.getElem?_append_left]
        · exact hj
        · rcases Nat.lt_or_ge j (insCells (l.take k)).length with h | h
          · exact h
          · rw [List.getElem?_eq_none h] at hj; cases hj
      rw [Nat.zero_add]
      exact (hW.cell (p := ⟨gL, j, none⟩) hgl).trans (CELLS.out j u e))
    have POST := Lib.hid (show ∀ W, Below w4.heap.size w4 W → ∀ j u, (insCells (l.drop (k + 1)))[j]? = some u → W.cell? ⟨gL, (k + 1) * 3 + j, none⟩ = some u from fun W hW j u hj => by
      have hgl := heap_lt (Go.Lib.ownsRow_kind L4.out gL rfl).choose_spec.choose_spec
      have e : (insCells l)[(k + 1) * 3 + j]? = some u := by
        have h1 : insCells l = insCells (l.take (k + 1)) ++ insCells (l.drop (k + 1)) := by rw [insCells_app, List.take_append_drop]
        have h2 : (insCells (l.take (k + 1))).length = (k + 1) * 3 := by rw [insCells_length, List.length_take]; omega
        rw [h1, ← h2, List.getElem?_append_right (by omega), Nat.add_sub_cancel_left]
        exact hj
      exact (hW.cell (p := ⟨gL, (k + 1) * 3 + j, none⟩) hgl).trans (CELLS.out _ u e))
    have LT := Lib.hid (show (l.take k).length = k by rw [List.length_take]; omega)
    have O0 := Lib.hid (ownsRow_empty (w4.alloc (Obj.cells #[] 34)) 34 3 w4.heap.size (heap_alloc_new _ _))
    have B0 := Lib.hid (Below.alloc (Below.refl w4.heap.size w4) (Nat.le_refl _) (Obj.cells #[] 34))
    go_upto_if 53 with (at_builtin; go_must (refine wpList_append_at _ rfl _ _ _ rfl elIns w4.heap.size _ 0 [] rfl O0.out (some ⟨gL, 0, none⟩) k cL (insCells (l.take k)) rfl (fun h => by cases h) hkc (by rw [insCells_length, LT.out]; omega) (fun _ => ⟨_, 0, rfl, PRE.out _ B0.out⟩) (insCells_small _) (by omega) (by unfold maxLen; omega) (by simp) ?_))
    intro v6 w6 hown6 hg6 hat6
    have B6 := Lib.hid (show Below w4.heap.size w4 w6 from Below.grown B0.out hg6 (by simp) (by simp [Value.ownBlock]))
    have M6 := Lib.hid (show IRw w6 w4.heap.size v6 (l.take k) by unfold IRw; rw [LT.out]; simpa using hown6)
    clear hown6 hg6 hat6
    go_upto_if 53 with (fail)
    go_cut [12] (fun mv wx => IRw wx w4.heap.size mv (l.take k ++ if tw then [l.getD k ⟨0, 0, ⟨#[]⟩⟩, l.getD k ⟨0, 0, ⟨#[]⟩⟩] else []) ∧ Below w4.heap.size w4 wx)
    case first =>
      cases tw with
      | false =>
        go_wp2_with fail
        go_meet
        exact ⟨by rw [if_neg (by decide), List.append_nil]; exact M6.out, B6.out⟩
      | true =>
        obtain ⟨A6, c6, hv6, _, _, _⟩ := M6.out.all
        rw [LT.out] at hv6
        subst hv6
        have O6 := Lib.hid (show w6.ownsRow w4.heap.size 34 3 (.slice A6 k c6) k (insCells (l.take k)) from by have := M6.out; unfold IRw at this; rw [LT.out] at this; exact this)
        obtain ⟨gq, e1, hgl, hcell⟩ := insrow L4.out rfl hkl
        injection e1 with e1
        injection e1 with e1 _
        subst e1
        obtain ⟨x, hx⟩ : ∃ x, l[k]'hkl = x := ⟨_, rfl⟩
        rw [hx] at hcell
        have d0 := hcell 0 (by omega)
        have d1 := hcell 1 (by omega)
        have d2 := hcell 2 (by omega)
        simp [Ins.cells] at d0 d1 d2
        have HXK := Lib.hid (show l.getD k ⟨0, 0, ⟨#[]⟩⟩ = x by rw [List.getD_eq_getElem?_getD, List.getElem?_eq_getElem hkl, Option.getD_some, hx])
        have hkl2 : (k : Int) < (l.length : Int) := by omega
        have hw6 := B6.out.size
        have hM := LT.out
        obtain ⟨itemI, jj1, jj2, jj3, jj4⟩ := elIns.hi
        obtain ⟨xo, xa, xs⟩ := x
        obtain ⟨mt, hmt⟩ : ∃ mt, mt = l.take k := ⟨_, rfl⟩
        have HMT := Lib.hid hmt
        rw [← hmt] at M6 O6 hM
        have hml : mt.length ≤ 3012 := by omega
        have SC := Lib.hid (show ∀ V, Below w4.heap.size w4 V → V.cell? ⟨gL, k * 3, none⟩ = some (.int .i64 xo) ∧ V.cell? ⟨gL, k * 3 + 1, none⟩ = some (.int .i64 xa) ∧ V.cell? ⟨gL, k * 3 + 2, none⟩ = some (.string xs) from fun V hV =>
          ⟨(hV.cell (p := ⟨gL, k * 3, none⟩) hgl).trans d0, (hV.cell (p := ⟨gL, k * 3 + 1, none⟩) hgl).trans d1, (hV.cell (p := ⟨gL, k * 3 + 2, none⟩) hgl).trans d2⟩)
        clear hcell hx d0 d1 d2
        have hgl6 : gL < w6.heap.size := by omega
        go_wp2_with fail
        refine wp_region_held_drew (S := fun w1 => w1.cell? ⟨gL, k * 3, none⟩ = some (.int .i64 xo) ∧ w1.cell? ⟨gL, k * 3 + 1, none⟩ = some (.int .i64 xa) ∧ w1.cell? ⟨gL, k * 3 + 2, none⟩ = some (.string xs)) (by kernel_rfl) ?Srs (fun hH0 => ?Brs)
        case Srs => (exact SC.out _ B6.out.drew)
        refine wpAnyH_take (i := 0) (oi := { dst := some 54, op := Go.Op.move (Go.Operand.tmp 12), type := 27, pos := "law.go:97", after := #[], guard := none }) (v := ?vrs0) rfl (by kernel_rfl) (by kernel_rfl) (by kernel_rfl) (fun _ _ _ h => h) (Or.inl ⟨by rfl, ?hyrs0⟩) (by assumption) ?restrs0
        case hyrs0 => (intro w hSw; (try dsimp only at hSw); go_simp; try with_reducible rfl)
        try simp only [Act.put, List.setIfInBounds_toArray, List.set_cons_zero, List.set_cons_succ]
        refine wpAnyH_take (i := 1) (oi := { dst := some 55, op := Go.Op.move (Go.Operand.tmp 10), type := 27, pos := "law.go:97", after := #[], guard := none }) (v := ?vrs1) rfl (by kernel_rfl) (by kernel_rfl) (by kernel_rfl) (fun _ _ _ h => h) (Or.inl ⟨by rfl, ?hyrs1⟩) (by assumption) ?restrs1
        case hyrs1 => (intro w hSw; (try dsimp only at hSw); go_simp; try with_reducible rfl)
        try simp only [Act.put, List.setIfInBounds_toArray, List.set_cons_zero, List.set_cons_succ]
        refine wpAnyH_take (i := 2) (oi := { dst := some 56, op := Go.Op.move (Go.Operand.tmp 11), type := 3, pos := "law.go:97", after := #[], guard := none }) (v := ?vrs2) rfl (by kernel_rfl) (by kernel_rfl) (by kernel_rfl) (fun _ _ _ h => h) (Or.inl ⟨by rfl, ?hyrs2⟩) (by assumption) ?restrs2
        case hyrs2 => (intro w hSw; (try dsimp only at hSw); go_simp; try with_reducible rfl)
        try simp only [Act.put, List.setIfInBounds_toArray, List.set_cons_zero, List.set_cons_succ]
        refine wpAnyH_take (i := 3) (oi := { dst := some 57, op := Go.Op.indexAddr 27 (Go.Operand.tmp 55) (Go.Operand.tmp 56), type := 0, pos := "law.go:97", after := #[{ on := 1, ground := Go.Ground.data }, { on := 2, ground := Go.Ground.data }], guard := none }) (v := ?vrs3) rfl (by kernel_rfl) (by kernel_rfl) (by kernel_rfl) (fun _ _ _ h => h) (Or.inl ⟨by rfl, ?hyrs3⟩) (by assumption) ?restrs3
        case hyrs3 => (intro w hSw; (try dsimp only at hSw); go_simp; try with_reducible rfl)
        try simp only [Act.put, List.setIfInBounds_toArray, List.set_cons_zero, List.set_cons_succ]
        refine wpAnyH_take (i := 4) (oi := { dst := some 58, op := Go.Op.load 34 (Go.Operand.tmp 57), type := 34, pos := "law.go:97", after := #[{ on := 3, ground := Go.Ground.data }], guard := none }) (v := ?vrs4) rfl (by kernel_rfl) (by kernel_rfl) (by kernel_rfl) (fun _ _ _ h => h) (Or.inl ⟨by rfl, ?hyrs4⟩) (by assumption) ?restrs4
        case hyrs4 => (intro w hSw; (try dsimp only at hSw); go_simp; try with_reducible rfl)
        try simp only [Act.put, List.setIfInBounds_toArray, List.set_cons_zero, List.set_cons_succ]
        refine wpAnyH_take (i := 5) (oi := { dst := some 59, op := Go.Op.move (Go.Operand.tmp 10), type := 27, pos := "law.go:97", after := #[], guard := none }) (v := ?vrs5) rfl (by kernel_rfl) (by kernel_rfl) (by kernel_rfl) (fun _ _ _ h => h) (Or.inl ⟨by rfl, ?hyrs5⟩) (by assumption) ?restrs5
        case hyrs5 => (intro w hSw; (try dsimp only at hSw); go_simp; try with_reducible rfl)
        try simp only [Act.put, List.setIfInBounds_toArray, List.set_cons_zero, List.set_cons_succ]
        refine wpAnyH_take (i := 6) (oi := { dst := some 60, op := Go.Op.move (Go.Operand.tmp 11), type := 3, pos := "law.go:97", after := #[], guard := none }) (v := ?vrs6) rfl (by kernel_rfl) (by kernel_rfl) (by kernel_rfl) (fun _ _ _ h => h) (Or.inl ⟨by rfl, ?hyrs6⟩) (by assumption) ?restrs6
        case hyrs6 => (intro w hSw; (try dsimp only at hSw); go_simp; try with_reducible rfl)
        try simp only [Act.put, List.setIfInBounds_toArray, List.set_cons_zero, List.set_cons_succ]
        refine wpAnyH_take (i := 7) (oi := { dst := some 61, op := Go.Op.indexAddr 27 (Go.Operand.tmp 59) (Go.Operand.tmp 60), type := 0, pos := "law.go:97", after := #[{ on := 5, ground := Go.Ground.data }, { on := 6, ground := Go.Ground.data }], guard := none }) (v := ?vrs7) rfl (by kernel_rfl) (by kernel_rfl) (by kernel_rfl) (fun _ _ _ h => h) (Or.inl ⟨by rfl, ?hyrs7⟩) (by assumption) ?restrs7
        case hyrs7 => (intro w hSw; (try dsimp only at hSw); go_simp; try with_reducible rfl)
        try simp only [Act.put, List.setIfInBounds_toArray, List.set_cons_zero, List.set_cons_succ]
        refine wpAnyH_take (i := 8) (oi := { dst := some 62, op := Go.Op.load 34 (Go.Operand.tmp 61), type := 34, pos := "law.go:97", after := #[{ on := 7, ground := Go.Ground.data }], guard := none }) (v := ?vrs8) rfl (by kernel_rfl) (by kernel_rfl) (by kernel_rfl) (fun _ _ _ h => h) (Or.inl ⟨by rfl, ?hyrs8⟩) (by assumption) ?restrs8
        case hyrs8 => (intro w hSw; (try dsimp only at hSw); go_simp; try with_reducible rfl)
        try simp only [Act.put, List.setIfInBounds_toArray, List.set_cons_zero, List.set_cons_succ]
        refine wpAnyH_ready (rs := [9]) (by kernel_rfl) (by simp) ?_
        refine AllReadyH.cons (o := { dst := some 63, op := Go.Op.buildSlice 27 2 #[(0, Go.Operand.tmp 58), (1, Go.Operand.tmp 62)], type := 27, pos := "law.go:97", after := #[{ on := 4, ground := Go.Ground.data }, { on := 8, ground := Go.Ground.data }], guard := none }) rfl (fun K hK => ?_) ?nilrs9
        case nilrs9 => exact AllReadyH.nil
        go_simp
        refine hK.out _ _ ?Srs9 (fun hH1 => ?restrs9)
        case Srs9 => (exact SC.out _ (B6.out.trans (Below.mono (by repeat (first | (with_reducible exact Below.refl _ _) | (with_reducible refine Below.drew ?_) | (with_reducible refine Below.alloc ?_ (by simp) _))) hw6)))
        clear hK K
        try simp only [Act.put, List.setIfInBounds_toArray, List.set_cons_zero, List.set_cons_succ]
        refine wpAnyH_ready (rs := [10]) (by kernel_rfl) (by simp) ?_
        refine AllReadyH.cons (o := { dst := some 64, op := Go.Op.call { callee := Go.Callee.builtin Go.Builtin.append, args := #[Go.Operand.tmp 54, Go.Operand.tmp 63], argTypes := #[27, 27] }, type := 27, pos := "law.go:97", after := #[{ on := 0, ground := Go.Ground.data }, { on := 9, ground := Go.Ground.data }], guard := none }) rfl (fun K hK => ?_) ?nilrs10
        case nilrs10 => exact AllReadyH.nil
        refine step_append_lies _ rfl _ _ _ rfl w4.heap.size 34 itemI (.agg #[.int .i64 0, .int .i64 0, .string ⟨#[]⟩]) 3 32 Try.underlying27 jj1 jj2 jj3 jj4 rfl (by omega) _ k _ rfl (own_below O6.out (by repeat (first | (with_reducible exact Below.refl _ _) | (with_reducible refine Below.drew ?_) | (with_reducible refine Below.alloc ?_ (by simp) _)))) ⟨w6.heap.size, 0, none⟩ 2 2 [.int .i64 xo, .int .i64 xa, .string xs, .int .i64 xo, .int .i64 xa, .string xs] rfl rfl (World.news_of_block (heap_at _ _ (by simp))) ?sma (by omega) (by unfold maxLen; omega) (by omega) (by simp; omega) _ rfl ?_
        case sma => (intro u hu; simp only [List.mem_cons, List.not_mem_nil, or_false] at hu; rcases hu with rfl | rfl | rfl | rfl | rfl | rfl <;> rfl)
        intro g1 cap1 w7 hown1 hg1 hat1 hlt1
        have B7 := Lib.hid (show Below w4.heap.size w4 w7 from Below.grown (B6.out.trans (Below.mono (by repeat (first | (with_reducible exact Below.refl _ _) | (with_reducible refine Below.drew ?_) | (with_reducible refine Below.alloc ?_ (by simp) _))) hw6)) hg1 (by simp; omega) (fun g hg => (O6.out.lt g hg).1))
        have M7 := Lib.hid (show IRw w7 w4.heap.size (.slice (some ⟨g1, 0, none⟩) (k + 2) cap1) (mt ++ if true = true then [l.getD k ⟨0, 0, ⟨#[]⟩⟩, l.getD k ⟨0, 0, ⟨#[]⟩⟩] else []) by rw [if_pos rfl, HXK.out]; unfold IRw; rw [← insCells_app, List.length_append, hM]; exact hown1)
        clear hown1 hg1 hat1 hlt1
        refine hK.out _ _ ?Srs10 (fun hH2 => ?restrs10)
        case Srs10 => (exact SC.out _ B7.out)
        clear hK K
        try simp only [Act.put, List.setIfInBounds_toArray, List.set_cons_zero, List.set_cons_succ]
        refine wpAnyH_take (i := 11) (oi := { dst := some 12, op := Go.Op.assign (Go.Operand.tmp 64), type := 27, pos := "law.go:97", after := #[{ on := 10, ground := Go.Ground.data }, { on := 10, ground := Go.Ground.chain }, { on := 0, ground := Go.Ground.phase }, { on := 1, ground := Go.Ground.phase }, { on := 2, ground := Go.Ground.phase }, { on := 3, ground := Go.Ground.phase }, { on := 4, ground := Go.Ground.phase }, { on := 5, ground := Go.Ground.phase }, { on := 6, ground := Go.Ground.phase }, { on := 7, ground := Go.Ground.phase }, { on := 8, ground := Go.Ground.phase }, { on := 9, ground := Go.Ground.phase }, { on := 10, ground := Go.Ground.phase }], guard := none }) (v := ?vrs11) rfl (by kernel_rfl) (by kernel_rfl) (by kernel_rfl) (fun _ _ _ h => h) (Or.inl ⟨by rfl, ?hyrs11⟩) (by assumption) ?restrs11
        case hyrs11 => (intro w hSw; (try dsimp only at hSw); go_simp; try with_reducible rfl)
        try simp only [Act.put, List.setIfInBounds_toArray, List.set_cons_zero, List.set_cons_succ]
        refine wpAnyH_done (by kernel_rfl) ?_ _
        go_wp2_with fail
        go_meet
        exact ⟨by rw [← HMT.out]; exact M7.out, B7.out⟩
    case rest =>
      obtain ⟨hmv, hbc⟩ := hcut
      obtain ⟨lq, hlq⟩ : ∃ lq, lq = l.take k ++ if tw then [l.getD k ⟨0, 0, ⟨#[]⟩⟩, l.getD k ⟨0, 0, ⟨#[]⟩⟩] else [] := ⟨_, rfl⟩
      have HLQ := Lib.hid hlq
      rw [← hlq] at hmv
      have hlqn : lq.length ≤ 3014 := by
        rw [hlq, List.length_append, LT.out]
        cases tw <;> simp <;> omega
      obtain ⟨Am, cm, rfl, _, _, _⟩ := hmv.all
      have MV := Lib.hid hmv
      have BC := Lib.hid hbc
      have hwc := hbc.size
      have LD := Lib.hid (show (l.drop (k + 1)).length = l.length - (k + 1) by rw [List.length_drop])
      obtain ⟨dn, hdn⟩ : ∃ dn, dn = l.length - (k + 1) := ⟨_, rfl⟩
      have HDN := Lib.hid hdn
      rw [← hdn] at LD
      have hdl : dn ≤ 3012 := by omega
      clear hlq hmv hbc M6 B6 O0 B0
      go_wp2_with (at_builtin; go_must (refine wpList_append_at _ rfl _ _ _ rfl elIns w4.heap.size _ lq.length (insCells lq) rfl MV.out _ _ _ (insCells (l.drop (k + 1))) rfl ?_ ?_ ?_ ?_ (insCells_small _) ?_ ?_ hwc ?_))
      · omega
      · rw [insCells_length, LD.out, HDN.out]; omega
      · exact fun h => absurd h (by omega)
      · exact fun _ => ⟨_, _, ⟨rfl, rfl⟩, POST.out _ BC.out⟩
      · omega
      · unfold maxLen; omega
      · intro v9 w9 hown9 hg9 hat9
        have B9 := Lib.hid (show Below w4.heap.size w4 w9 from Below.grown BC.out hg9 hwc (fun g hg => (MV.out.lt g hg).1))
        obtain ⟨m, hm⟩ : ∃ m, m = spoil l k tw := ⟨_, rfl⟩
        have M9 := Lib.hid (show IRw w9 w4.heap.size v9 m by
          have e : m = lq ++ l.drop (k + 1) := by rw [hm, HLQ.out]; rfl
          unfold IRw
          rw [e, ← insCells_app, List.length_append, LD.out, HDN.out]
          exact hown9)
        have HIN := Lib.hid (show InsIn m by rw [hm]; exact in_of (Nat.le_trans (spoil_len (tw := tw) hkl).2 (by omega)) (spoil_in hkl HI1.out))
        have HNE := Lib.hid (show ¬ m.length = l.length by rw [hm]; exact (spoil_len hkl).1)
        have HML := Lib.hid (show m.length ≤ 3013 by rw [hm]; exact Nat.le_trans (spoil_len (tw := tw) hkl).2 (by omega))
        have C9 := Lib.hid (C5.out.below (B9.out))
        have CD := Lib.hid (pdecode_any HIN.out M9.out)
        clear hown9 hg9 hat9 hm
        go_wp2_with fail
        refine CD.out.mono ?_
        rintro e w10 ⟨hv10, gv10, er10, rfl, hb10, hq10⟩
        have C10 := Lib.hid (C9.out.below hb10)
        have M10 := Lib.hid (show IRw w10 w4.heap.size v9 m from own_below M9.out hb10)
        have HQ := Lib.hid hq10.out
        clear hb10 hq10 CD
        cases hdec : decR (rdT m 1000) m with
        | none =>
          have HDC := Lib.hid hdec
          have hq := HQ.out
          rw [hdec] at hq
          obtain ⟨rfl, rfl, rfl⟩ := hq
          obtain ⟨W, hW⟩ : ∃ W, W = w10.alloc (Obj.cells #[.int .i64 0, .int .i64 0, .string ⟨#[]⟩, .slice none 0 0] 24) := ⟨_, rfl⟩
          have BW := Lib.hid (show Below w10.heap.size w10 W by rw [hW]; exact Below.alloc (Below.refl _ _) (Nat.le_refl _) _)
          have HW := Lib.hid hW
          have CD2 := Lib.hid (rdecode_any HIN.out (show IRw W w4.heap.size v9 m from own_below M10.out BW.out))
          clear hdec hW HQ
          go_wp2_with fail
          rw [← HW.out]
          refine CD2.out.mono ?_
          rintro e w11 ⟨hv11, gv11, er11, rfl, hb11, hq11⟩
          have hq := hq11.out
          rw [HDC.out] at hq
          obtain ⟨rfl, rfl, rfl⟩ := hq
          have C11 := Lib.hid ((C10.out.below BW.out).below hb11)
          clear hb11 hq11 CD2
          go_wp2_with fail
          go_region
          go_wp2_with fail
          go_ret
          exact ⟨rfl, (C11.out.low.trans ((Below.alloc (Below.refl _ _) (Nat.le_refl _) _).mono C11.out.low.size)).drew⟩
        | some p =>
          obtain ⟨th2, gs2⟩ := p
          have HDC := Lib.hid hdec
          have hq := HQ.out
          rw [hdec] at hq
          obtain ⟨rfl, hu1, hu2, hu3, BU, SU, PU, qu, hSU, hSB, htu, htg⟩ := hq
          obtain ⟨u0, u1, u2, u3, u4, u5, rfl⟩ := htu.agg
          obtain ⟨gA, gc, rfl, hgc, hgA, _⟩ := htg.all
          have HE2 := Lib.hid (show encN th2 gs2 = m from dec_is hdec)
          have HL2 := Lib.hid (show m.length = 2 + th2.nodes + gs2.length + nodesL gs2 by rw [← HE2.out]; exact enc_len hu1.1.kinds fun g hm => (hu2 g hm).1.kinds)
          have WO2 := Lib.hid (show (wholeT th2 gs2).ok from whole_ok2 hu1 hu2 (by have := HML.out; have := HL2.out; omega))
          have NEQ := Lib.hid (show ¬ eqT (numT (varsT (wholeT th gs)) (wholeT th gs)) (numT (varsT (wholeT th2 gs2)) (wholeT th2 gs2)) from fun he => by
            have := same_enc CF.out.ok.1.1.kinds (fun g hm => (CF.out.ok.2.1 g hm).1.kinds) hu1.1.kinds (fun g hm => (hu2 g hm).1.kinds) he
            rw [HE2.out, ← HL.out] at this
            exact HNE.out (by rw [this]))
          have HG2 := Lib.hid (show gs2.length ≤ 3000 by have := HML.out; have := HL2.out; have := hu1.1.pos; have := nodesL_len gs2 fun g hm => (hu2 g hm).1; omega)
          obtain ⟨X, hX⟩ : ∃ X, X = w1.heap.size := ⟨_, rfl⟩
          obtain ⟨Y, hY⟩ : ∃ Y, Y = w10.heap.size := ⟨_, rfl⟩
          obtain ⟨W, hW⟩ : ∃ W, W = w10.alloc (Obj.cells #[.int .i64 u0, .int .i64 u1, .string u2, .slice u3 u4 u5] 24) := ⟨_, rfl⟩
          have HW := Lib.hid hW
          have BW := Lib.hid (show Below w10.heap.size w10 W by rw [hW]; exact Below.alloc (Below.refl _ _) (Nat.le_refl _) _)
          have HYB := Lib.hid (show W.heap[Y]? = some (.cells #[.int .i64 u0, .int .i64 u1, .string u2, .slice u3 u4 u5] 24 (0, 0)) by rw [hW, hY]; exact heap_alloc_new _ _)
          have TU := Lib.hid (htu.below BW.out)
          have TG := Lib.hid (show TL W BU SU PU (.slice gA gs2.length gc) gs2 qu from (⟨htg.len, htg.own, fun i h1 h2 => (htg.tp i h1 h2).more fun b hb => hb.imp (fun h => h.elim) id, htg.lo, htg.off, hSB⟩ : TL w10 BU SU PU _ gs2 qu).below BW.out)
          have HSB := Lib.hid (show ∀ b, SU b → b < W.heap.size from fun b hb => by have := BW.out.size; have := hSU b hb; omega)
          have CW := Lib.hid (C10.out.below BW.out)
          have HXB := Lib.hid (show W.heap[X]? = some (.cells #[.int .i64 k0, .int .i64 k1, .string k2, .slice k3 k4 k5] 24 (0, 0)) by rw [hX]; exact CW.out.box)
          have CD2 := Lib.hid (rdecode_any HIN.out (show IRw W w4.heap.size v9 m from own_below M10.out BW.out))
          clear hdec hW HQ htu htg hu1 hu2 hu3 hSU hSB
          go_wp2_with fail
          rw [← HW.out]
          refine CD2.out.mono ?_
          rintro e w11 ⟨hv11, gv11, er11, rfl, hb11, hq11⟩
          have hq := hq11.out
          rw [HDC.out] at hq
          obtain ⟨rfl, _, _, _, _, _, _, _, _, _, htv, _⟩ := hq
          obtain ⟨z0, z1, z2, z3, z4, z5, rfl⟩ := htv.agg
          obtain ⟨Z, hZ⟩ : ∃ Z, Z = w11.alloc (Obj.cells #[.int .i64 z0, .int .i64 z1, .string z2, .slice z3 z4 z5] 24) := ⟨_, rfl⟩
          have HZ := Lib.hid hZ
          have BZ := Lib.hid (show Below W.heap.size W Z by rw [hZ]; exact Below.alloc hb11 hb11.size _)
          have R0 := Lib.hid (show Below W.heap.size W Z.drew from BZ.out.drew)
          have SS := Lib.hid (show ∀ V, Below W.heap.size W V → V.cell? ⟨X, 0, none⟩ = some (.int .i64 k0) ∧ V.cell? ⟨X, 1, none⟩ = some (.int .i64 k1) ∧ V.cell? ⟨X, 2, none⟩ = some (.string k2) ∧ V.cell? ⟨X, 3, none⟩ = some (.slice k3 k4 k5) ∧ V.cell? ⟨Y, 0, none⟩ = some (.int .i64 u0) ∧ V.cell? ⟨Y, 1, none⟩ = some (.int .i64 u1) ∧ V.cell? ⟨Y, 2, none⟩ = some (.string u2) ∧ V.cell? ⟨Y, 3, none⟩ = some (.slice u3 u4 u5) from fun V hV => by
            obtain ⟨x0, x1, x2, x3⟩ := box4t ((hV.block _ (heap_lt HXB.out)).trans HXB.out)
            obtain ⟨y0, y1, y2, y3⟩ := box4t ((hV.block _ (heap_lt HYB.out)).trans HYB.out)
            exact ⟨x0, x1, x2, x3, y0, y1, y2, y3⟩)
          clear hq11 htv hb11 CD2 hZ
          go_upto_region 17 with fail
          rw [← HZ.out, ← hX, ← hY]
          clear hX hY
          refine wp_region_held_drew (S := fun w1 => w1.cell? ⟨X, 0, none⟩ = some (.int .i64 k0) ∧ w1.cell? ⟨X, 1, none⟩ = some (.int .i64 k1) ∧ w1.cell? ⟨X, 2, none⟩ = some (.string k2) ∧ w1.cell? ⟨X, 3, none⟩ = some (.slice k3 k4 k5) ∧ w1.cell? ⟨Y, 0, none⟩ = some (.int .i64 u0) ∧ w1.cell? ⟨Y, 1, none⟩ = some (.int .i64 u1) ∧ w1.cell? ⟨Y, 2, none⟩ = some (.string u2) ∧ w1.cell? ⟨Y, 3, none⟩ = some (.slice u3 u4 u5)) (by kernel_rfl) ?Srt (fun hH0 => ?Brt)
          case Srt => (exact SS.out _ R0.out)
          refine wpAnyH_take (i := 0) (oi := { dst := some 86, op := Go.Op.move (Go.Operand.tmp 15), type := 37, pos := "law.go:105", after := #[], guard := none }) (v := ?vrt0) rfl (by kernel_rfl) (by kernel_rfl) (by kernel_rfl) (fun _ _ _ h => h) (Or.inl ⟨by rfl, ?hyrt0⟩) (by assumption) ?restrt0
          case hyrt0 => (intro w hSw; (try dsimp only at hSw); go_simp; try with_reducible rfl)
          try simp only [Act.put, List.setIfInBounds_toArray, List.set_cons_zero, List.set_cons_succ]
          refine wpAnyH_take (i := 1) (oi := { dst := some 87, op := Go.Op.binOp Go.BinOp.neq 37 (Go.Operand.tmp 86) (Go.Operand.const (Go.Value.int Go.IntKind.i64 0)) 37, type := 4, pos := "law.go:105", after := #[{ on := 0, ground := Go.Ground.data }], guard := none }) (v := ?vrt1) rfl (by kernel_rfl) (by kernel_rfl) (by kernel_rfl) (fun _ _ _ h => h) (Or.inl ⟨by rfl, ?hyrt1⟩) (by assumption) ?restrt1
          case hyrt1 => (intro w hSw; (try dsimp only at hSw); go_simp; try with_reducible rfl)
          try simp only [Act.put, List.setIfInBounds_toArray, List.set_cons_zero, List.set_cons_succ]
          refine wpAnyH_take (i := 2) (oi := { dst := some 88, op := Go.Op.move (Go.Operand.tmp 87), type := 4, pos := "law.go:105", after := #[{ on := 1, ground := Go.Ground.data }], guard := none }) (v := ?vrt2) rfl (by kernel_rfl) (by kernel_rfl) (by kernel_rfl) (fun _ _ _ h => h) (Or.inl ⟨by rfl, ?hyrt2⟩) (by assumption) ?restrt2
          case hyrt2 => (intro w hSw; (try dsimp only at hSw); go_simp; try with_reducible rfl)
          try simp only [Act.put, List.setIfInBounds_toArray, List.set_cons_zero, List.set_cons_succ]
          refine wpAnyH_take (i := 3) (oi := { dst := some 89, op := Go.Op.load 24 (Go.Operand.tmp 7), type := 24, pos := "law.go:105", after := #[{ on := 2, ground := Go.Ground.guard }], guard := some (2, false) }) (v := ?vrt3) rfl (by kernel_rfl) (by kernel_rfl) (by kernel_rfl) (fun _ _ _ h => h) (Or.inl ⟨by rfl, ?hyrt3⟩) (by assumption) ?restrt3
          case hyrt3 => (intro w hSw; (try dsimp only at hSw); go_simp; try with_reducible rfl)
          try simp only [Act.put, List.setIfInBounds_toArray, List.set_cons_zero, List.set_cons_succ]
          refine wpAnyH_take (i := 4) (oi := { dst := some 90, op := Go.Op.move (Go.Operand.tmp 8), type := 22, pos := "law.go:105", after := #[{ on := 2, ground := Go.Ground.guard }], guard := some (2, false) }) (v := ?vrt4) rfl (by kernel_rfl) (by kernel_rfl) (by kernel_rfl) (fun _ _ _ h => h) (Or.inl ⟨by rfl, ?hyrt4⟩) (by assumption) ?restrt4
          case hyrt4 => (intro w hSw; (try dsimp only at hSw); go_simp; try with_reducible rfl)
          try simp only [Act.put, List.setIfInBounds_toArray, List.set_cons_zero, List.set_cons_succ]
          refine wpAnyH_take (i := 6) (oi := { dst := some 92, op := Go.Op.load 24 (Go.Operand.tmp 13), type := 24, pos := "law.go:105", after := #[{ on := 2, ground := Go.Ground.guard }], guard := some (2, false) }) (v := ?vrt6) rfl (by kernel_rfl) (by kernel_rfl) (by kernel_rfl) (fun _ _ _ h => h) (Or.inl ⟨by rfl, ?hyrt6⟩) (by assumption) ?restrt6
          case hyrt6 => (intro w hSw; (try dsimp only at hSw); go_simp; try with_reducible rfl)
          try simp only [Act.put, List.setIfInBounds_toArray, List.set_cons_zero, List.set_cons_succ]
          refine wpAnyH_take (i := 7) (oi := { dst := some 93, op := Go.Op.move (Go.Operand.tmp 14), type := 22, pos := "law.go:105", after := #[{ on := 2, ground := Go.Ground.guard }], guard := some (2, false) }) (v := ?vrt7) rfl (by kernel_rfl) (by kernel_rfl) (by kernel_rfl) (fun _ _ _ h => h) (Or.inl ⟨by rfl, ?hyrt7⟩) (by assumption) ?restrt7
          case hyrt7 => (intro w hSw; (try dsimp only at hSw); go_simp; try with_reducible rfl)
          try simp only [Act.put, List.setIfInBounds_toArray, List.set_cons_zero, List.set_cons_succ]
          refine wpAnyH_ready (rs := [5]) (by kernel_rfl) (by simp) ?_
          refine AllReadyH.cons (o := { dst := some 91, op := Go.Op.call { callee := Go.Callee.value (Go.Operand.func 9), args := #[Go.Operand.tmp 89, Go.Operand.tmp 90], argTypes := #[24, 22] }, type := 24, pos := "law.go:105", after := #[{ on := 3, ground := Go.Ground.data }, { on := 4, ground := Go.Ground.data }, { on := 2, ground := Go.Ground.chain }, { on := 2, ground := Go.Ground.guard }], guard := some (2, false) }) rfl (fun K hK => ?_) ?nilrt5
          case nilrt5 => exact AllReadyH.nil
          go_simp
          (refine (whole_any (CW.out.tp.below R0.out) (CW.out.tl.below R0.out) (fun b hb => by have := CW.out.lt b hb; have := R0.out.size; have := heap_lt CW.out.box; omega) (by have := CF.out.ok.2.2; omega)).mono ?_)
          rintro e w15 ⟨⟨A5, c5, rfl, ht5⟩, hb5⟩
          have R5 := Lib.hid (R0.out.trans (hb5.mono R0.out.size))
          have T5 := Lib.hid ht5
          clear ht5 hb5
          go_wp2_with fail
          refine hK.out _ _ ?Srt5 (fun hH1 => ?restrt5)
          case Srt5 => (exact SS.out _ R5.out)
          clear hK K
          try simp only [Act.put, List.setIfInBounds_toArray, List.set_cons_zero, List.set_cons_succ]
          refine wpAnyH_ready (rs := [8]) (by kernel_rfl) (by simp) ?_
          refine AllReadyH.cons (o := { dst := some 94, op := Go.Op.call { callee := Go.Callee.value (Go.Operand.func 9), args := #[Go.Operand.tmp 92, Go.Operand.tmp 93], argTypes := #[24, 22] }, type := 24, pos := "law.go:105", after := #[{ on := 6, ground := Go.Ground.data }, { on := 7, ground := Go.Ground.data }, { on := 5, ground := Go.Ground.chain }, { on := 2, ground := Go.Ground.guard }], guard := some (2, false) }) rfl (fun K hK => ?_) ?nilrt8
          case nilrt8 => exact AllReadyH.nil
          go_simp
          (refine (whole_any (TU.out.below R5.out) (TG.out.below R5.out) (fun b hb => by have := HSB.out b hb; have := R5.out.size; omega) HG2.out).mono ?_)
          rintro e w16 ⟨⟨A6, c6, rfl, ht6⟩, hb6⟩
          have R6 := Lib.hid (R5.out.trans (hb6.mono R5.out.size))
          have T6 := Lib.hid ht6
          have T56 := Lib.hid (T5.out.below hb6)
          clear ht6 hb6
          go_wp2_with fail
          refine hK.out _ _ ?Srt8 (fun hH2 => ?restrt8)
          case Srt8 => (exact SS.out _ R6.out)
          clear hK K
          try simp only [Act.put, List.setIfInBounds_toArray, List.set_cons_zero, List.set_cons_succ]
          refine wpAnyH_ready (rs := [9]) (by kernel_rfl) (by simp) ?_
          refine AllReadyH.cons (o := { dst := some 95, op := Go.Op.call { callee := Go.Callee.value (Go.Operand.func 14), args := #[Go.Operand.tmp 91, Go.Operand.tmp 94], argTypes := #[24, 24] }, type := 4, pos := "law.go:105", after := #[{ on := 5, ground := Go.Ground.data }, { on := 8, ground := Go.Ground.data }, { on := 8, ground := Go.Ground.chain }, { on := 2, ground := Go.Ground.guard }], guard := some (2, false) }) rfl (fun K hK => ?_) ?nilrt9
          case nilrt9 => exact AllReadyH.nil
          go_simp
          (refine (variant_any CF.out.whole WO2.out T56.out T6.out).mono ?_)
          rintro e w17 ⟨⟨vb, rfl, hvb⟩, hb7⟩
          obtain rfl : vb = false := (by cases vb with | false => rfl | true => exact absurd (hvb.out.1 (by first | rfl | trivial)) NEQ.out)
          have R7 := Lib.hid (R6.out.trans (hb7.mono R6.out.size))
          clear hvb hb7
          go_wp2_with fail
          refine hK.out _ _ ?Srt9 (fun hH3 => ?restrt9)
          case Srt9 => (exact SS.out _ R7.out)
          clear hK K
          try simp only [Act.put, List.setIfInBounds_toArray, List.set_cons_zero, List.set_cons_succ]
          refine wpAnyH_take (i := 10) (oi := { dst := some 96, op := Go.Op.unOp Go.UnOp.not 4 (Go.Operand.tmp 95), type := 4, pos := "law.go:105", after := #[{ on := 9, ground := Go.Ground.data }, { on := 2, ground := Go.Ground.guard }], guard := some (2, false) }) (v := ?vrt10) rfl (by kernel_rfl) (by kernel_rfl) (by kernel_rfl) (fun _ _ _ h => h) (Or.inl ⟨by rfl, ?hyrt10⟩) (by assumption) ?restrt10
          case hyrt10 => (intro w hSw; (try dsimp only at hSw); go_simp; try with_reducible rfl)
          try simp only [Act.put, List.setIfInBounds_toArray, List.set_cons_zero, List.set_cons_succ]
          refine wpAnyH_take (i := 11) (oi := { dst := some 97, op := Go.Op.pick (Go.Operand.tmp 88) (Go.Operand.const (Go.Value.bool true)) (Go.Operand.tmp 96), type := 4, pos := "law.go:105", after := #[{ on := 2, ground := Go.Ground.data }, { on := 10, ground := Go.Ground.data }], guard := none }) (v := ?vrt11) rfl (by kernel_rfl) (by kernel_rfl) (by kernel_rfl) (fun _ _ _ h => h) (Or.inl ⟨by rfl, ?hyrt11⟩) (by assumption) ?restrt11
          case hyrt11 => (intro w hSw; (try dsimp only at hSw); go_simp; try with_reducible rfl)
          try simp only [Act.put, List.setIfInBounds_toArray, List.set_cons_zero, List.set_cons_succ]
          refine wpAnyH_take (i := 12) (oi := { dst := some 6, op := Go.Op.assign (Go.Operand.tmp 97), type := 4, pos := "law.go:105", after := #[{ on := 11, ground := Go.Ground.data }, { on := 9, ground := Go.Ground.chain }, { on := 0, ground := Go.Ground.phase }, { on := 1, ground := Go.Ground.phase }, { on := 2, ground := Go.Ground.phase }, { on := 3, ground := Go.Ground.phase }, { on := 4, ground := Go.Ground.phase }, { on := 5, ground := Go.Ground.phase }, { on := 6, ground := Go.Ground.phase }, { on := 7, ground := Go.Ground.phase }, { on := 8, ground := Go.Ground.phase }, { on := 9, ground := Go.Ground.phase }, { on := 10, ground := Go.Ground.phase }, { on := 11, ground := Go.Ground.phase }], guard := none }) (v := ?vrt12) rfl (by kernel_rfl) (by kernel_rfl) (by kernel_rfl) (fun _ _ _ h => h) (Or.inl ⟨by rfl, ?hyrt12⟩) (by assumption) ?restrt12
          case hyrt12 => (intro w hSw; (try dsimp only at hSw); go_simp; try with_reducible rfl)
          try simp only [Act.put, List.setIfInBounds_toArray, List.set_cons_zero, List.set_cons_succ]
          refine wpAnyH_done (by kernel_rfl) ?_ _
          go_wp2_with fail
          go_ret
          exact ⟨rfl, CW.out.low.trans (R7.out.mono CW.out.low.size)⟩
      · intro v9 w9 hown9 hg9 hat9
        have B9 := Lib.hid (show Below w4.heap.size w4 w9 from Below.grown BC.out hg9 hwc (fun g hg => (MV.out.lt g hg).1))
        obtain ⟨m, hm⟩ : ∃ m, m = spoil l k tw := ⟨_, rfl⟩
        have M9 := Lib.hid (show IRw w9 w4.heap.size v9 m by
          have e : m = lq ++ l.drop (k + 1) := by rw [hm, HLQ.out]; rfl
          unfold IRw
          rw [e, ← insCells_app, List.length_append, LD.out, HDN.out]
          exact hown9)
        have HIN := Lib.hid (show InsIn m by rw [hm]; exact in_of (Nat.le_trans (spoil_len (tw := tw) hkl).2 (by omega)) (spoil_in hkl HI1.out))
        have HNE := Lib.hid (show ¬ m.length = l.length by rw [hm]; exact (spoil_len hkl).1)
        have HML := Lib.hid (show m.length ≤ 3013 by rw [hm]; exact Nat.le_trans (spoil_len (tw := tw) hkl).2 (by omega))
        have C9 := Lib.hid (C5.out.below (B9.out))
        have CD := Lib.hid (pdecode_any HIN.out M9.out)
        clear hown9 hg9 hat9 hm
        go_wp2_with fail
        refine CD.out.mono ?_
        rintro e w10 ⟨hv10, gv10, er10, rfl, hb10, hq10⟩
        have C10 := Lib.hid (C9.out.below hb10)
        have M10 := Lib.hid (show IRw w10 w4.heap.size v9 m from own_below M9.out hb10)
        have HQ := Lib.hid hq10.out
        clear hb10 hq10 CD
        cases hdec : decR (rdT m 1000) m with
        | none =>
          have HDC := Lib.hid hdec
          have hq := HQ.out
          rw [hdec] at hq
          obtain ⟨rfl, rfl, rfl⟩ := hq
          obtain ⟨W, hW⟩ : ∃ W, W = w10.alloc (Obj.cells #[.int .i64 0, .int .i64 0, .string ⟨#[]⟩, .slice none 0 0] 24) := ⟨_, rfl⟩
          have BW := Lib.hid (show Below w10.heap.size w10 W by rw [hW]; exact Below.alloc (Below.refl _ _) (Nat.le_refl _) _)
          have HW := Lib.hid hW
          have CD2 := Lib.hid (rdecode_any HIN.out (show IRw W w4.heap.size v9 m from own_below M10.out BW.out))
          clear hdec hW HQ
          go_wp2_with fail
          rw [← HW.out]
          refine CD2.out.mono ?_
          rintro e w11 ⟨hv11, gv11, er11, rfl, hb11, hq11⟩
          have hq := hq11.out
          rw [HDC.out] at hq
          obtain ⟨rfl, rfl, rfl⟩ := hq
          have C11 := Lib.hid ((C10.out.below BW.out).below hb11)
          clear hb11 hq11 CD2
          go_wp2_with fail
          go_region
          go_wp2_with fail
          go_ret
          exact ⟨rfl, (C11.out.low.trans ((Below.alloc (Below.refl _ _) (Nat.le_refl _) _).mono C11.out.low.size)).drew⟩
        | some p =>
          obtain ⟨th2, gs2⟩ := p
          have HDC := Lib.hid hdec
          have hq := HQ.out
          rw [hdec] at hq
          obtain ⟨rfl, hu1, hu2, hu3, BU, SU, PU, qu, hSU, hSB, htu, htg⟩ := hq
          obtain ⟨u0, u1, u2, u3, u4, u5, rfl⟩ := htu.agg
          obtain ⟨gA, gc, rfl, hgc, hgA, _⟩ := htg.all
          have HE2 := Lib.hid (show encN th2 gs2 = m from dec_is hdec)
          have HL2 := Lib.hid (show m.length = 2 + th2.nodes + gs2.length + nodesL gs2 by rw [← HE2.out]; exact enc_len hu1.1.kinds fun g hm => (hu2 g hm).1.kinds)
          have WO2 := Lib.hid (show (wholeT th2 gs2).ok from whole_ok2 hu1 hu2 (by have := HML.out; have := HL2.out; omega))
          have NEQ := Lib.hid (show ¬ eqT (numT (varsT (wholeT th gs)) (wholeT th gs)) (numT (varsT (wholeT th2 gs2)) (wholeT th2 gs2)) from fun he => by
            have := same_enc CF.out.ok.1.1.kinds (fun g hm => (CF.out.ok.2.1 g hm).1.kinds) hu1.1.kinds (fun g hm => (hu2 g hm).1.kinds) he
            rw [HE2.out, ← HL.out] at this
            exact HNE.out (by rw [this]))
          have HG2 := Lib.hid (show gs2.length ≤ 3000 by have := HML.out; have := HL2.out; have := hu1.1.pos; have := nodesL_len gs2 fun g hm => (hu2 g hm).1; omega)
          obtain ⟨X, hX⟩ : ∃ X, X = w1.heap.size := ⟨_, rfl⟩
          obtain ⟨Y, hY⟩ : ∃ Y, Y = w10.heap.size := ⟨_, rfl⟩
          obtain ⟨W, hW⟩ : ∃ W, W = w10.alloc (Obj.cells #[.int .i64 u0, .int .i64 u1, .string u2, .slice u3 u4 u5] 24) := ⟨_, rfl⟩
          have HW := Lib.hid hW
          have BW := Lib.hid (show Below w10.heap.size w10 W by rw [hW]; exact Below.alloc (Below.refl _ _) (Nat.le_refl _) _)
          have HYB := Lib.hid (show W.heap[Y]? = some (.cells #[.int .i64 u0, .int .i64 u1, .string u2, .slice u3 u4 u5] 24 (0, 0)) by rw [hW, hY]; exact heap_alloc_new _ _)
          have TU := Lib.hid (htu.below BW.out)
          have TG := Lib.hid (show TL W BU SU PU (.slice gA gs2.length gc) gs2 qu from (⟨htg.len, htg.own, fun i h1 h2 => (htg.tp i h1 h2).more fun b hb => hb.imp (fun h => h.elim) id, htg.lo, htg.off, hSB⟩ : TL w10 BU SU PU _ gs2 qu).below BW.out)
          have HSB := Lib.hid (show ∀ b, SU b → b < W.heap.size from fun b hb => by have := BW.out.size; have := hSU b hb; omega)
          have CW := Lib.hid (C10.out.below BW.out)
          have HXB := Lib.hid (show W.heap[X]? = some (.cells #[.int .i64 k0, .int .i64 k1, .string k2, .slice k3 k4 k5] 24 (0, 0)) by rw [hX]; exact CW.out.box)
          have CD2 := Lib.hid (rdecode_any HIN.out (show IRw W w4.heap.size v9 m from own_below M10.out BW.out))
          clear hdec hW HQ htu htg hu1 hu2 hu3 hSU hSB
          go_wp2_with fail
          rw [← HW.out]
          refine CD2.out.mono ?_
          rintro e w11 ⟨hv11, gv11, er11, rfl, hb11, hq11⟩
          have hq := hq11.out
          rw [HDC.out] at hq
          obtain ⟨rfl, _, _, _, _, _, _, _, _, _, htv, _⟩ := hq
          obtain ⟨z0, z1, z2, z3, z4, z5, rfl⟩ := htv.agg
          obtain ⟨Z, hZ⟩ : ∃ Z, Z = w11.alloc (Obj.cells #[.int .i64 z0, .int .i64 z1, .string z2, .slice z3 z4 z5] 24) := ⟨_, rfl⟩
          have HZ := Lib.hid hZ
          have BZ := Lib.hid (show Below W.heap.size W Z by rw [hZ]; exact Below.alloc hb11 hb11.size _)
          have R0 := Lib.hid (show Below W.heap.size W Z.drew from BZ.out.drew)
          have SS := Lib.hid (show ∀ V, Below W.heap.size W V → V.cell? ⟨X, 0, none⟩ = some (.int .i64 k0) ∧ V.cell? ⟨X, 1, none⟩ = some (.int .i64 k1) ∧ V.cell? ⟨X, 2, none⟩ = some (.string k2) ∧ V.cell? ⟨X, 3, none⟩ = some (.slice k3 k4 k5) ∧ V.cell? ⟨Y, 0, none⟩ = some (.int .i64 u0) ∧ V.cell? ⟨Y, 1, none⟩ = some (.int .i64 u1) ∧ V.cell? ⟨Y, 2, none⟩ = some (.string u2) ∧ V.cell? ⟨Y, 3, none⟩ = some (.slice u3 u4 u5) from fun V hV => by
            obtain ⟨x0, x1, x2, x3⟩ := box4t ((hV.block _ (heap_lt HXB.out)).trans HXB.out)
            obtain ⟨y0, y1, y2, y3⟩ := box4t ((hV.block _ (heap_lt HYB.out)).trans HYB.out)
            exact ⟨x0, x1, x2, x3, y0, y1, y2, y3⟩)
          clear hq11 htv hb11 CD2 hZ
          go_upto_region 17 with fail
          rw [← HZ.out, ← hX, ← hY]
          clear hX hY
          refine wp_region_held_drew (S := fun w1 => w1.cell? ⟨X, 0, none⟩ = some (.int .i64 k0) ∧ w1.cell? ⟨X, 1, none⟩ = some (.int .i64 k1) ∧ w1.cell? ⟨X, 2, none⟩ = some (.string k2) ∧ w1.cell? ⟨X, 3, none⟩ = some (.slice k3 k4 k5) ∧ w1.cell? ⟨Y, 0, none⟩ = some (.int .i64 u0) ∧ w1.cell? ⟨Y, 1, none⟩ = some (.int .i64 u1) ∧ w1.cell? ⟨Y, 2, none⟩ = some (.string u2) ∧ w1.cell? ⟨Y, 3, none⟩ = some (.slice u3 u4 u5)) (by kernel_rfl) ?Sru (fun hH0 => ?Bru)
          case Sru => (exact SS.out _ R0.out)
          refine wpAnyH_take (i := 0) (oi := { dst := some 86, op := Go.Op.move (Go.Operand.tmp 15), type := 37, pos := "law.go:105", after := #[], guard := none }) (v := ?vru0) rfl (by kernel_rfl) (by kernel_rfl) (by kernel_rfl) (fun _ _ _ h => h) (Or.inl ⟨by rfl, ?hyru0⟩) (by assumption) ?restru0
          case hyru0 => (intro w hSw; (try dsimp only at hSw); go_simp; try with_reducible rfl)
          try simp only [Act.put, List.setIfInBounds_toArray, List.set_cons_zero, List.set_cons_succ]
          refine wpAnyH_take (i := 1) (oi := { dst := some 87, op := Go.Op.binOp Go.BinOp.neq 37 (Go.Operand.tmp 86) (Go.Operand.const (Go.Value.int Go.IntKind.i64 0)) 37, type := 4, pos := "law.go:105", after := #[{ on := 0, ground := Go.Ground.data }], guard := none }) (v := ?vru1) rfl (by kernel_rfl) (by kernel_rfl) (by kernel_rfl) (fun _ _ _ h => h) (Or.inl ⟨by rfl, ?hyru1⟩) (by assumption) ?restru1
          case hyru1 => (intro w hSw; (try dsimp only at hSw); go_simp; try with_reducible rfl)
          try simp only [Act.put, List.setIfInBounds_toArray, List.set_cons_zero, List.set_cons_succ]
          refine wpAnyH_take (i := 2) (oi := { dst := some 88, op := Go.Op.move (Go.Operand.tmp 87), type := 4, pos := "law.go:105", after := #[{ on := 1, ground := Go.Ground.data }], guard := none }) (v := ?vru2) rfl (by kernel_rfl) (by kernel_rfl) (by kernel_rfl) (fun _ _ _ h => h) (Or.inl ⟨by rfl, ?hyru2⟩) (by assumption) ?restru2
          case hyru2 => (intro w hSw; (try dsimp only at hSw); go_simp; try with_reducible rfl)
          try simp only [Act.put, List.setIfInBounds_toArray, List.set_cons_zero, List.set_cons_succ]
          refine wpAnyH_take (i := 3) (oi := { dst := some 89, op := Go.Op.load 24 (Go.Operand.tmp 7), type := 24, pos := "law.go:105", after := #[{ on := 2, ground := Go.Ground.guard }], guard := some (2, false) }) (v := ?vru3) rfl (by kernel_rfl) (by kernel_rfl) (by kernel_rfl) (fun _ _ _ h => h) (Or.inl ⟨by rfl, ?hyru3⟩) (by assumption) ?restru3
          case hyru3 => (intro w hSw; (try dsimp only at hSw); go_simp; try with_reducible rfl)
          try simp only [Act.put, List.setIfInBounds_toArray, List.set_cons_zero, List.set_cons_succ]
          refine wpAnyH_take (i := 4) (oi := { dst := some 90, op := Go.Op.move (Go.Operand.tmp 8), type := 22, pos := "law.go:105", after := #[{ on := 2, ground := Go.Ground.guard }], guard := some (2, false) }) (v := ?vru4) rfl (by kernel_rfl) (by kernel_rfl) (by kernel_rfl) (fun _ _ _ h => h) (Or.inl ⟨by rfl, ?hyru4⟩) (by assumption) ?restru4
          case hyru4 => (intro w hSw; (try dsimp only at hSw); go_simp; try with_reducible rfl)
          try simp only [Act.put, List.setIfInBounds_toArray, List.set_cons_zero, List.set_cons_succ]
          refine wpAnyH_take (i := 6) (oi := { dst := some 92, op := Go.Op.load 24 (Go.Operand.tmp 13), type := 24, pos := "law.go:105", after := #[{ on := 2, ground := Go.Ground.guard }], guard := some (2, false) }) (v := ?vru6) rfl (by kernel_rfl) (by kernel_rfl) (by kernel_rfl) (fun _ _ _ h => h) (Or.inl ⟨by rfl, ?hyru6⟩) (by assumption) ?restru6
          case hyru6 => (intro w hSw; (try dsimp only at hSw); go_simp; try with_reducible rfl)
          try simp only [Act.put, List.setIfInBounds_toArray, List.set_cons_zero, List.set_cons_succ]
          refine wpAnyH_take (i := 7) (oi := { dst := some 93, op := Go.Op.move (Go.Operand.tmp 14), type := 22, pos := "law.go:105", after := #[{ on := 2, ground := Go.Ground.guard }], guard := some (2, false) }) (v := ?vru7) rfl (by kernel_rfl) (by kernel_rfl) (by kernel_rfl) (fun _ _ _ h => h) (Or.inl ⟨by rfl, ?hyru7⟩) (by assumption) ?restru7
          case hyru7 => (intro w hSw; (try dsimp only at hSw); go_simp; try with_reducible rfl)
          try simp only [Act.put, List.setIfInBounds_toArray, List.set_cons_zero, List.set_cons_succ]
          refine wpAnyH_ready (rs := [5]) (by kernel_rfl) (by simp) ?_
          refine AllReadyH.cons (o := { dst := some 91, op := Go.Op.call { callee := Go.Callee.value (Go.Operand.func 9), args := #[Go.Operand.tmp 89, Go.Operand.tmp 90], argTypes := #[24, 22] }, type := 24, pos := "law.go:105", after := #[{ on := 3, ground := Go.Ground.data }, { on := 4, ground := Go.Ground.data }, { on := 2, ground := Go.Ground.chain }, { on := 2, ground := Go.Ground.guard }], guard := some (2, false) }) rfl (fun K hK => ?_) ?nilru5
          case nilru5 => exact AllReadyH.nil
          go_simp
          (refine (whole_any (CW.out.tp.below R0.out) (CW.out.tl.below R0.out) (fun b hb => by have := CW.out.lt b hb; have := R0.out.size; have := heap_lt CW.out.box; omega) (by have := CF.out.ok.2.2; omega)).mono ?_)
          rintro e w15 ⟨⟨A5, c5, rfl, ht5⟩, hb5⟩
          have R5 := Lib.hid (R0.out.trans (hb5.mono R0.out.size))
          have T5 := Lib.hid ht5
          clear ht5 hb5
          go_wp2_with fail
          refine hK.out _ _ ?Sru5 (fun hH1 => ?restru5)
          case Sru5 => (exact SS.out _ R5.out)
          clear hK K
          try simp only [Act.put, List.setIfInBounds_toArray, List.set_cons_zero, List.set_cons_succ]
          refine wpAnyH_ready (rs := [8]) (by kernel_rfl) (by simp) ?_
          refine AllReadyH.cons (o := { dst := some 94, op := Go.Op.call { callee := Go.Callee.value (Go.Operand.func 9), args := #[Go.Operand.tmp 92, Go.Operand.tmp 93], argTypes := #[24, 22] }, type := 24, pos := "law.go:105", after := #[{ on := 6, ground := Go.Ground.data }, { on := 7, ground := Go.Ground.data }, { on := 5, ground := Go.Ground.chain }, { on := 2, ground := Go.Ground.guard }], guard := some (2, false) }) rfl (fun K hK => ?_) ?nilru8
          case nilru8 => exact AllReadyH.nil
          go_simp
          (refine (whole_any (TU.out.below R5.out) (TG.out.below R5.out) (fun b hb => by have := HSB.out b hb; have := R5.out.size; omega) HG2.out).mono ?_)
          rintro e w16 ⟨⟨A6, c6, rfl, ht6⟩, hb6⟩
          have R6 := Lib.hid (R5.out.trans (hb6.mono R5.out.size))
          have T6 := Lib.hid ht6
          have T56 := Lib.hid (T5.out.below hb6)
          clear ht6 hb6
          go_wp2_with fail
          refine hK.out _ _ ?Sru8 (fun hH2 => ?restru8)
          case Sru8 => (exact SS.out _ R6.out)
          clear hK K
          try simp only [Act.put, List.setIfInBounds_toArray, List.set_cons_zero, List.set_cons_succ]
          refine wpAnyH_ready (rs := [9]) (by kernel_rfl) (by simp) ?_
          refine AllReadyH.cons (o := { dst := some 95, op := Go.Op.call { callee := Go.Callee.value (Go.Operand.func 14), args := #[Go.Operand.tmp 91, Go.Operand.tmp 94], argTypes := #[24, 24] }, type := 4, pos := "law.go:105", after := #[{ on := 5, ground := Go.Ground.data }, { on := 8, ground := Go.Ground.data }, { on := 8, ground := Go.Ground.chain }, { on := 2, ground := Go.Ground.guard }], guard := some (2, false) }) rfl (fun K hK => ?_) ?nilru9
          case nilru9 => exact AllReadyH.nil
          go_simp
          (refine (variant_any CF.out.whole WO2.out T56.out T6.out).mono ?_)
          rintro e w17 ⟨⟨vb, rfl, hvb⟩, hb7⟩
          obtain rfl : vb = false := (by cases vb with | false => rfl | true => exact absurd (hvb.out.1 (by first | rfl | trivial)) NEQ.out)
          have R7 := Lib.hid (R6.out.trans (hb7.mono R6.out.size))
          clear hvb hb7
          go_wp2_with fail
          refine hK.out _ _ ?Sru9 (fun hH3 => ?restru9)
          case Sru9 => (exact SS.out _ R7.out)
          clear hK K
          try simp only [Act.put, List.setIfInBounds_toArray, List.set_cons_zero, List.set_cons_succ]
          refine wpAnyH_take (i := 10) (oi := { dst := some 96, op := Go.Op.unOp Go.UnOp.not 4 (Go.Operand.tmp 95), type := 4, pos := "law.go:105", after := #[{ on := 9, ground := Go.Ground.data }, { on := 2, ground := Go.Ground.guard }], guard := some (2, false) }) (v := ?vru10) rfl (by kernel_rfl) (by kernel_rfl) (by kernel_rfl) (fun _ _ _ h => h) (Or.inl ⟨by rfl, ?hyru10⟩) (by assumption) ?restru10
          case hyru10 => (intro w hSw; (try dsimp only at hSw); go_simp; try with_reducible rfl)
          try simp only [Act.put, List.setIfInBounds_toArray, List.set_cons_zero, List.set_cons_succ]
          refine wpAnyH_take (i := 11) (oi := { dst := some 97, op := Go.Op.pick (Go.Operand.tmp 88) (Go.Operand.const (Go.Value.bool true)) (Go.Operand.tmp 96), type := 4, pos := "law.go:105", after := #[{ on := 2, ground := Go.Ground.data }, { on := 10, ground := Go.Ground.data }], guard := none }) (v := ?vru11) rfl (by kernel_rfl) (by kernel_rfl) (by kernel_rfl) (fun _ _ _ h => h) (Or.inl ⟨by rfl, ?hyru11⟩) (by assumption) ?restru11
          case hyru11 => (intro w hSw; (try dsimp only at hSw); go_simp; try with_reducible rfl)
          try simp only [Act.put, List.setIfInBounds_toArray, List.set_cons_zero, List.set_cons_succ]
          refine wpAnyH_take (i := 12) (oi := { dst := some 6, op := Go.Op.assign (Go.Operand.tmp 97), type := 4, pos := "law.go:105", after := #[{ on := 11, ground := Go.Ground.data }, { on := 9, ground := Go.Ground.chain }, { on := 0, ground := Go.Ground.phase }, { on := 1, ground := Go.Ground.phase }, { on := 2, ground := Go.Ground.phase }, { on := 3, ground := Go.Ground.phase }, { on := 4, ground := Go.Ground.phase }, { on := 5, ground := Go.Ground.phase }, { on := 6, ground := Go.Ground.phase }, { on := 7, ground := Go.Ground.phase }, { on := 8, ground := Go.Ground.phase }, { on := 9, ground := Go.Ground.phase }, { on := 10, ground := Go.Ground.phase }, { on := 11, ground := Go.Ground.phase }], guard := none }) (v := ?vru12) rfl (by kernel_rfl) (by kernel_rfl) (by kernel_rfl) (fun _ _ _ h => h) (Or.inl ⟨by rfl, ?hyru12⟩) (by assumption) ?restru12
          case hyru12 => (intro w hSw; (try dsimp only at hSw); go_simp; try with_reducible rfl)
          try simp only [Act.put, List.setIfInBounds_toArray, List.set_cons_zero, List.set_cons_succ]
          refine wpAnyH_done (by kernel_rfl) ?_ _
          go_wp2_with fail
          go_ret
          exact ⟨rfl, CW.out.low.trans (R7.out.mono CW.out.low.size)⟩
end Go.Proofs.Ytlgeepjlnjlgdaa
