/- The walk through coneylaw06.alike, of terms that are alike. -/
import Derived.Test.YtiefbdblefliaaaDoorWt4
import Derived.Test.YtiefbdblefliaaaDoorTL
import Derived.Test.YtiefbdblefliaaaDoorWr0
import Derived.Deep.RegionHeld3
namespace Go.Proofs.YtiefbdblefliaaaDoor
open Go.RowKit

/-- A row of pairs. -/
def PRw (w : World) (v : Value) (ps : Prs) : Prop :=
  ∃ A c, v = .slice A ps.length c ∧ ps.length ≤ c ∧ (A = none → c = 0) ∧ (0 < ps.length → ∃ g o, A = some ⟨g, o, none⟩ ∧ g < w.heap.size ∧ ∀ (i : Nat) (x : Int × Int), ps[i]? = some x → w.cell? ⟨g, o + i * 2, none⟩ = some (.int .i64 x.1) ∧ w.cell? ⟨g, o + i * 2 + 1, none⟩ = some (.int .i64 x.2))
theorem PRw.below {w w' : World} {v : Value} {ps : Prs} (h : PRw w v ps) (hb : Below w.heap.size w w') : PRw w' v ps := by
  obtain ⟨A, c, e, h1, h2, hx⟩ := h
  refine ⟨A, c, e, h1, h2, fun h0 => ?_⟩
  obtain ⟨g, o, rfl, hg, hc⟩ := hx h0
  exact ⟨g, o, rfl, Nat.lt_of_lt_of_le hg hb.size, fun i x hi => ⟨(hb.cell (p := ⟨g, _, none⟩) hg).trans (hc i x hi).1, (hb.cell (p := ⟨g, _, none⟩) hg).trans (hc i x hi).2⟩⟩
theorem PRw.nil (w : World) : PRw w (.slice none 0 0) [] := ⟨_, _, rfl, Nat.le_refl _, fun _ => rfl, fun h => absurd h (by simp)⟩
theorem Tryd.info_pair : (Tryd.prog.info? 35).map (fun i => (i.zero, i.size, i.bytes)) = some (some (.agg #[.int .i64 0, .int .i64 0]), 2, 16) := by kernel_rfl
theorem elPair : El Tryd.prog 32 35 (.agg #[.int .i64 0, .int .i64 0]) 2 16 := by
  obtain ⟨i0, hi, hz0, hz1, hz2⟩ := info_parts Tryd.info_pair
  exact ⟨Tryd.underlying32, ⟨i0, hi, hz0, hz1, hz2⟩, rfl, by omega⟩
def pCells (l : Prs) : List Value := l.flatMap fun x => [.int .i64 x.1, .int .i64 x.2]
theorem pCells_length (l : Prs) : (pCells l).length = l.length * 2 := by
  induction l with
  | nil => rfl
  | cons x l ih => simp only [pCells, List.flatMap_cons, List.length_append, List.length_cons, List.length_nil] at ih ⊢; omega
theorem pCells_app (l r : Prs) : pCells (l ++ r) = pCells l ++ pCells r := by simp [pCells]
theorem pCells_at : ∀ (l : Prs) (i : Nat) (x : Int × Int), l[i]? = some x → (pCells l)[i * 2]? = some (.int .i64 x.1) ∧ (pCells l)[i * 2 + 1]? = some (.int .i64 x.2)
  | [], _, _, h => by simp at h
  | y :: l, 0, x, h => by
    simp at h
    subst h
    exact ⟨rfl, rfl⟩
  | y :: l, i + 1, x, h => by
    have := pCells_at l i x (by simpa using h)
    have e : pCells (y :: l) = .int .i64 y.1 :: .int .i64 y.2 :: pCells l := by simp [pCells]
    rw [e, show (i + 1) * 2 = i * 2 + 1 + 1 by omega, show (i * 2 + 1 + 1 + 1 : Nat) = (i * 2 + 1) + 1 + 1 by omega]
    simpa using this
theorem pCells_small (l : Prs) : ∀ u ∈ pCells l, u.oneCell' = true := by
  intro u hu
  simp only [pCells, List.mem_flatMap] at hu
  obtain ⟨q, _, hu⟩ := hu
  simp only [List.mem_cons, List.not_mem_nil, or_false] at hu
  rcases hu with rfl | rfl <;> rfl
/-- All cells of a row of pairs. -/
theorem PRw.all {w : World} {A : Option Addr} {m c : Nat} {ps : Prs} (h : PRw w (.slice A m c) ps) : m = ps.length ∧ m ≤ c ∧ (A = none → c = 0) ∧ (0 < m → ∃ b off, A = some ⟨b, off, none⟩ ∧ ∀ j u, (pCells ps)[j]? = some u → w.cell? ⟨b, off + j, none⟩ = some u) := by
  obtain ⟨A', c', e, h1, h2, hx⟩ := h
  injection e with e1 e2 e3
  subst e1; subst e2; subst e3
  refine ⟨rfl, h1, h2, fun h0 => ?_⟩
  obtain ⟨g, o, rfl, hg, hc⟩ := hx h0
  refine ⟨g, o, rfl, fun j u hu => ?_⟩
  have hj : j < ps.length * 2 := by
    rcases Nat.lt_or_ge j (pCells ps).length with h | h
    · rw [pCells_length] at h; exact h
    · rw [List.getElem?_eq_none h] at hu; cases hu
  have hi : j / 2 < ps.length := by omega
  obtain ⟨g1, g2⟩ := hc (j / 2) _ (List.getElem?_eq_getElem hi)
  obtain ⟨p1, p2⟩ := pCells_at ps (j / 2) _ (List.getElem?_eq_getElem hi)
  rcases Nat.mod_two_eq_zero_or_one j with h | h
  · have e : j / 2 * 2 = j := by omega
    rw [e] at g1 p1
    rw [p1] at hu
    injection hu with hu
    rw [← hu]; exact g1
  · have e : j / 2 * 2 + 1 = j := by omega
    rw [Nat.add_assoc, e] at g2
    rw [e] at p2
    rw [p2] at hu
    injection hu with hu
    rw [← hu]; exact g2
theorem own_prw {w : World} {B : Nat} {v : Value} {ps : Prs} (h : w.ownsRow B 35 2 v ps.length (pCells ps)) : PRw w v ps := by
  obtain ⟨A, c, rfl, hc, hA, _, hx⟩ := own_open h
  refine ⟨A, c, rfl, hc, hA, fun h0 => ?_⟩
  obtain ⟨g, cur, rfl, _, hh, hcur⟩ := hx h0
  refine ⟨g, 0, rfl, heap_lt hh, fun i x hi => ?_⟩
  have hil : i < ps.length := (List.getElem?_eq_some_iff.1 hi).1
  obtain ⟨p1, p2⟩ := pCells_at ps i x hi
  rw [Nat.zero_add]
  exact ⟨by rw [cell_of_row w g _ _ _ _ hh, hcur _ (by omega)]; exact p1, by rw [cell_of_row w g _ _ _ _ hh, hcur _ (by omega)]; exact p2⟩
theorem two_boxes (w : World) (o1 o2 : Obj) : ((w.alloc o1).alloc o2).heap[w.heap.size]? = some o1 ∧ ((w.alloc o1).alloc o2).heap[w.heap.size + 1]? = some o2 := by
  constructor
  · exact (Below.heap_alloc _ _ _ (by simp)).trans (heap_alloc_new w o1)
  · have := heap_alloc_new (w.alloc o1) o2
    rwa [show (w.alloc o1).heap.size = w.heap.size + 1 by simp] at this
theorem alk_pos {a b : T} {ps qs : Prs} (h : Alk a b ps qs) : 0 < a.nodes := by
  cases a with
  | nil => exact h.elim
  | mk k n s m a => simp only [T.nodes]; omega
theorem alk_len : ∀ (a b : T) (ps qs : Prs), Alk a b ps qs → qs.length ≤ ps.length + a.nodes := by
  intro a
  induction a with
  | nil => exact fun _ _ _ h => h.elim
  | mk k n s m a ih =>
    intro b ps qs h
    cases b with
    | nil => exact h.elim
    | mk k2 n2 s2 m2 b =>
      obtain ⟨_, h⟩ := h
      rcases h with ⟨_, ⟨_, _, _, rfl⟩ | ⟨_, rfl⟩⟩ | ⟨_, _, rfl⟩ | ⟨_, _, rfl⟩ | ⟨_, _, _, c, h0, h1, h2⟩
      · omega
      · simp only [T.nodes, List.length_append, List.length_singleton]; omega
      · omega
      · omega
      · have key : ∀ j, j ≤ m → (c j).length ≤ ps.length + sumTo j fun i => (a i).nodes := by
          intro j
          induction j with
          | zero => intro _; rw [h0]; simp [sumTo]
          | succ j ihj =>
            intro hj
            have g1 := ihj (by omega)
            have g2 := ih j _ _ _ (h2 j (by omega))
            simp only [sumTo]
            omega
        have := key m (Nat.le_refl _)
        rw [h1] at this
        simp only [T.nodes]
        omega
def AlkP (w : World) (qs : Prs) (e : Ending) (w' : World) : Prop := ∃ v, e = .returned (.tuple #[v, .bool true]) ∧ PRw w' v qs ∧ Below w.heap.size w w'
set_option maxRecDepth 100000 in
set_option maxHeartbeats 8000000 in
theorem alike_any : ∀ (a b : T) (ps qs : Prs) (S S' : Nat) (va vb vp : Value) (w : World), Alk a b ps qs → GT w S a va → GT w S' b vb → PRw w vp ps → ps.length + a.nodes ≤ 20000 →
    Calls Tryd.prog 11 #[va, vb, vp] w fun e w' => AlkP w qs e w' := by
  intro a
  induction a with
  | nil => intro b ps qs _ _ _ _ _ w h; exact h.elim
  | mk k n s m a ih =>
    intro b ps qs S S' va vb vp w h hva hvb hvp hN
    cases b with
    | nil => exact h.elim
    | mk k2 n2 s2 m2 b =>
    obtain ⟨k', n', s', A, m', c, rfl⟩ := hva.agg
    obtain ⟨e0, e1, e2, rfl, hmc, hA, _⟩ := hva.args
    injection e0 with _ e0
    injection e1 with _ e1
    injection e2 with e2
    subst e0; subst e1; subst e2
    obtain ⟨j, n2', s2', A2, m2', c2, rfl⟩ := hvb.agg
    obtain ⟨e0, e1, e2, rfl, hmc2, hA2, _⟩ := hvb.args
    injection e0 with _ e0
    injection e1 with _ e1
    injection e2 with e2
    subst e0; subst e1; subst e2
    obtain ⟨rfl, hcase⟩ := h
    have HV := Lib.hid hva
    have HU := Lib.hid hvb
    have HP := Lib.hid hvp
    obtain ⟨pA, pc, rfl, hpc, hpA, hpx⟩ := hvp
    have HPX := Lib.hid hpx
    clear hpx
    have BX := Lib.hid (belA (belA (Below.refl w.heap.size w) (Obj.cells #[.int .i64 k', .int .i64 n', .string s', .slice A m' c] 24)) (Obj.cells #[.int .i64 k', .int .i64 n2', .string s2', .slice A2 m2' c2] 24))
    rcases hcase with ⟨rfl, hcase⟩ | ⟨rfl, hnn, rfl⟩ | ⟨rfl, rfl, rfl⟩ | ⟨rfl, rfl, rfl, cc, hc0, hcm, hcs⟩
    · have XB := Lib.hid (two_boxes w (Obj.cells #[.int .i64 1, .int .i64 n', .string s', .slice A m' c] 24) (Obj.cells #[.int .i64 1, .int .i64 n2', .string s2', .slice A2 m2' c2] 24)).1
      have XC := Lib.hid (two_boxes w (Obj.cells #[.int .i64 1, .int .i64 n', .string s', .slice A m' c] 24) (Obj.cells #[.int .i64 1, .int .i64 n2', .string s2', .slice A2 m2' c2] 24)).2
      have hps : ps.length ≤ 20000 := by omega
      clear hva hvb
      go_enter Tryd.func11, Tryd.ntmps11
      go_wp2_with fail
      go_loopw [8] (fun iv wr => ∃ (i : Nat), iv = .int .i64 (i : Int) ∧ i ≤ ps.length ∧ Hid ((∀ (j : Nat) (x : Int × Int), j < i → ps[j]? = some x → x.1 ≠ n' ∧ x.2 ≠ n2')) ∧ Below w.heap.size w wr ∧ wr.heap[w.heap.size]? = some (.cells #[.int .i64 1, .int .i64 n', .string s', .slice A m' c] 24 (0, 0)) ∧ wr.heap[w.heap.size + 1]? = some (.cells #[.int .i64 1, .int .i64 n2', .string s2', .slice A2 m2' c2] 24 (0, 0))) (fun iv _ => ps.length - (intOf iv).toNat)
      case atStart => exact ⟨0, rfl, Nat.zero_le _, Lib.hid fun j x h => absurd h (by omega), BX.out, XB.out, XC.out⟩
      case round =>
        obtain ⟨i, rfl, hi, hj, hb, hxb, hxc⟩ := hrel
        have HB := Lib.hid hb
        have HXB := Lib.hid hxb
        have HXC := Lib.hid hxc
        obtain ⟨_, x1, _, _⟩ := box4t hxb
        obtain ⟨_, y1, _, _⟩ := box4t hxc
        have hl1 := heap_lt hxc
        clear hb hxb hxc BX XB XC
        by_cases him : i < ps.length
        · have him' : (i : Int) < (ps.length : Int) := by omega
          obtain ⟨g, o, rfl, hg, hc⟩ := HPX.out (by omega)
          obtain ⟨x, hx⟩ : ∃ x, ps[i]? = some x := ⟨_, List.getElem?_eq_getElem him⟩
          obtain ⟨z0, z1⟩ := hc i x hx
          obtain ⟨z0, z1⟩ := (show wr.cell? ⟨g, o + i * 2, none⟩ = some (.int .i64 x.1) ∧ wr.cell? ⟨g, o + i * 2 + 1, none⟩ = some (.int .i64 x.2) from ⟨(HB.out.cell (p := ⟨g, _, none⟩) hg).trans z0, (HB.out.cell (p := ⟨g, _, none⟩) hg).trans z1⟩)
          have hgl : g < wr.heap.size := by have := HB.out.size; omega
          have x1d : wr.drew.cell? ⟨w.heap.size, 1, none⟩ = some (.int .i64 n') := x1
          have y1d : wr.drew.cell? ⟨w.heap.size + 1, 1, none⟩ = some (.int .i64 n2') := y1
          obtain ⟨u, v⟩ := x
          dsimp only at z0 z1
          have z0d : wr.drew.cell? ⟨g, o + i * 2, none⟩ = some (.int .i64 u) := z0
          have z1d : wr.drew.cell? ⟨g, o + i * 2 + 1, none⟩ = some (.int .i64 v) := z1
          have HX := Lib.hid hx
          clear hc hx
          by_cases hq : u = n' ∧ v = n2'
          · have hu1 : (u == n') = true := beq_iff_eq.2 hq.1
            have hv1 : (v == n2') = true := beq_iff_eq.2 hq.2
            have hqs : qs = ps := by
              rcases hcase with ⟨_, _, _, h⟩ | ⟨h1, _⟩
              · exact h
              · exact absurd hq.1 (h1 i _ HX.out).1
            have P := Lib.hid (show AlkP w qs (.returned (.tuple #[.slice (some ⟨g, o, none⟩) ps.length pc, .bool true])) wr.drew.drew from ⟨_, rfl, by rw [hqs]; exact HP.out.below (HB.out.drew.drew), HB.out.drew.drew⟩)
            have x1e : wr.drew.drew.cell? ⟨w.heap.size, 1, none⟩ = some (.int .i64 n') := x1
            have y1e : wr.drew.drew.cell? ⟨w.heap.size + 1, 1, none⟩ = some (.int .i64 n2') := y1
            have z0e : wr.drew.drew.cell? ⟨g, o + i * 2, none⟩ = some (.int .i64 u) := z0
            have z1e : wr.drew.drew.cell? ⟨g, o + i * 2 + 1, none⟩ = some (.int .i64 v) := z1
            clear hcase hqs hq
            go_wp2_with fail
            go_region
            go_wp2_with fail
            go_region
            go_wp2_with fail
            refine bodyPost_ret (v := .tuple #[.slice (some ⟨g, o, none⟩) ps.length pc, .bool true]) (by simp [results, go_sem]) rfl ?_
            exact P.out
          · have hne : u ≠ n' ∧ v ≠ n2' := by
              rcases hcase with ⟨i0, h0, h1, _⟩ | ⟨h1, _⟩
              · rcases Nat.lt_trichotomy i i0 with h | h | h
                · exact h1 i _ h HX.out
                · subst h
                  rw [HX.out] at h0
                  injection h0 with h0
                  injection h0 with h2 h3
                  exact absurd ⟨h2, h3⟩ hq
                · exact absurd rfl (hj.out i0 _ h h0).1
              · exact h1 i _ HX.out
            have hu1 : (u == n') = false := beq_eq_false_iff_ne.2 hne.1
            have hv1 : (v == n2') = false := beq_eq_false_iff_ne.2 hne.2
            have HC := Lib.hid hcase
            have HNE := Lib.hid hne
            clear hcase hne hq
            go_wp2_with fail
            go_region_held3 (fun W => W.cell? ⟨w.heap.size, 1, none⟩ = some (.int .i64 n') ∧ W.cell? ⟨w.heap.size + 1, 1, none⟩ = some (.int .i64 n2') ∧ W.cell? ⟨g, o + i * 2, none⟩ = some (.int .i64 u) ∧ W.cell? ⟨g, o + i * 2 + 1, none⟩ = some (.int .i64 v))
              (with_reducible exact ⟨x1d, y1d, z0d, z1d⟩)
              (fail)
            go_wp2_with fail
            go_roundw
            case rel => exact ⟨i + 1, by go_num, him, Lib.hid (fun j x hjl hx => by
              rcases Nat.lt_or_ge j i with h | h
              · exact hj.out j x h hx
              · obtain rfl : j = i := by omega
                rw [HX.out] at hx
                injection hx with hx
                rw [← hx]
                exact HNE.out), HB.out.drew, HXB.out, HXC.out⟩
            case measure => simp [intOf]; omega
        · obtain rfl : i = ps.length := by omega
          have hqs : qs = ps ++ [(n', n2')] := by
            rcases hcase with ⟨i0, h0, _⟩ | ⟨_, h⟩
            · have hl := (List.getElem?_eq_some_iff.1 h0).1
              exact absurd rfl (hj.out i0 _ hl h0).1
            · exact h
          clear hcase
          have HQS := Lib.hid hqs
          have hws := HB.out.size
          have hwl := heap_lt HXC.out
          have B1 := Lib.hid (belA HB.out (Obj.cells #[] 35))
          have O1 := Lib.hid (show (wr.alloc (Obj.cells #[] 35)).ownsRow wr.heap.size 35 2 (.slice (some ⟨wr.heap.size, 0, none⟩) 0 0) 0 [] from ⟨rfl, .inr ⟨wr.heap.size, 0, #[], rfl, Nat.le_refl _, heap_alloc_new _ _, Nat.le_refl _, by unfold maxLen; omega, rfl, rfl⟩⟩)
          obtain ⟨_, _, hpA1, hpx1⟩ := (HP.out.below B1.out).all
          clear hqs x1 y1
          go_wp2_with (at_builtin; go_must (refine wpList_append_at _ rfl _ _ _ rfl elPair wr.heap.size _ 0 [] rfl O1.out pA ps.length pc (pCells ps) rfl hpA1 hpc (by rw [pCells_length]) hpx1 (pCells_small _) (by omega) (by unfold maxLen; omega) (by simp) ?_))
          intro v3 w3 hown3 hg3 hat3
          have hown3 : w3.ownsRow wr.heap.size 35 2 v3 ps.length (pCells ps) := by simpa using hown3
          have hs3 : wr.heap.size + 1 ≤ w3.heap.size := by have := hg3.size; simpa using this
          have keep : ∀ (b : Nat) (o : Obj), b < wr.heap.size → wr.heap[b]? = some o → w3.heap[b]? = some o := fun b o hb ho => by
            rw [hg3.block b (by simp; omega) (fun e => by simp [Value.ownBlock] at e; omega)]
            exact (Below.heap_alloc _ _ _ hb).trans ho
          have XB3 := Lib.hid (keep _ _ (by omega) HXB.out)
          have XC3 := Lib.hid (keep _ _ hwl HXC.out)
          have B3 := Lib.hid (B1.out.grown hg3 (by simp; omega) (fun k hk => by simp [Value.ownBlock] at hk; omega))
          have O3 := Lib.hid hown3
          obtain ⟨_, x1, _, _⟩ := box4t XB3.out
          obtain ⟨_, y1, _, _⟩ := box4t XC3.out
          have hl3 := heap_lt XC3.out
          obtain ⟨A3, c3, rfl, _, _, _⟩ := own_open hown3
          have O4 := Lib.hid (own_below O3.out (Below.alloc (Below.refl w3.heap.size w3) (Nat.le_refl _) (Obj.cells #[.int .i64 n', .int .i64 n2'] 35)))
          clear hown3 hg3 hat3 keep hpx1 hpA1
          go_wp2_with (at_builtin; go_must (refine wpList_append_at _ rfl _ _ _ rfl elPair wr.heap.size _ ps.length (pCells ps) rfl O4.out (some ⟨w3.heap.size, 0, none⟩) 1 1 (pCells [(n', n2')]) rfl (fun h => by cases h) (Nat.le_refl _) (by rw [pCells_length]; rfl) (fun _ => ⟨_, 0, rfl, fun j u hu => ?_⟩) (pCells_small _) (by omega) (by unfold maxLen; omega) (by simp; omega) ?_))
          · rw [Nat.zero_add, cell_of_row _ _ j _ _ _ (heap_alloc_new _ _)]
            simpa [pCells] using hu
          intro v5 w5 hown5 hg5 _
          have P := Lib.hid (show AlkP w qs (.returned (.tuple #[v5, .bool true])) w5 from ⟨_, rfl, own_prw (B := wr.heap.size) (by rw [HQS.out, pCells_app, List.length_append]; exact hown5), (belA B3.out (Obj.cells #[.int .i64 n', .int .i64 n2'] 35)).grown hg5 (by simp; omega) (fun k hk => by have := (O3.out.lt k hk).1; omega)⟩)
          clear hown5 hg5
          go_wp2_with fail
          refine bodyPost_ret (v := .tuple #[v5, .bool true]) (by simp [results, go_sem]) rfl ?_
          exact P.out
    · have XB := Lib.hid (two_boxes w (Obj.cells #[.int .i64 2, .int .i64 n', .string s', .slice A m' c] 24) (Obj.cells #[.int .i64 2, .int .i64 n2', .string s2', .slice A2 m2' c2] 24)).1
      have XC := Lib.hid (two_boxes w (Obj.cells #[.int .i64 2, .int .i64 n', .string s', .slice A m' c] 24) (Obj.cells #[.int .i64 2, .int .i64 n2', .string s2', .slice A2 m2' c2] 24)).2
      have P := Lib.hid (show AlkP w qs (.returned (.tuple #[.slice pA qs.length pc, .bool true])) _ from ⟨_, rfl, HP.out.below BX.out.drew, BX.out.drew⟩)
      obtain ⟨_, x1, _, _⟩ := box4t XB.out
      obtain ⟨_, y1, _, _⟩ := box4t XC.out
      have x1d : ((w.alloc (Obj.cells #[.int .i64 2, .int .i64 n', .string s', .slice A m' c] 24)).alloc (Obj.cells #[.int .i64 2, .int .i64 n2', .string s2', .slice A2 m2' c2] 24)).drew.cell? ⟨w.heap.size, 1, none⟩ = some (.int .i64 n') := x1
      have y1d : ((w.alloc (Obj.cells #[.int .i64 2, .int .i64 n', .string s', .slice A m' c] 24)).alloc (Obj.cells #[.int .i64 2, .int .i64 n2', .string s2', .slice A2 m2' c2] 24)).drew.cell? ⟨w.heap.size + 1, 1, none⟩ = some (.int .i64 n2') := y1
      have hu1 : (n' == n2') = true := beq_iff_eq.2 hnn
      clear hva hvb x1 y1 hnn
      go_enter Tryd.func11, Tryd.ntmps11
      go_wp2_with fail
      go_region_held3 (fun W => W.cell? ⟨w.heap.size, 1, none⟩ = some (.int .i64 n') ∧ W.cell? ⟨w.heap.size + 1, 1, none⟩ = some (.int .i64 n2'))
        (with_reducible exact ⟨x1d, y1d⟩)
        (fail)
      go_wp2_with fail
      refine bodyPost_ret (v := .tuple #[.slice pA qs.length pc, .bool true]) (by simp [results, go_sem]) rfl ?_
      exact P.out
    · have P := Lib.hid (show AlkP w qs (.returned (.tuple #[.slice pA qs.length pc, .bool true])) _ from ⟨_, rfl, HP.out.below BX.out, BX.out⟩)
      clear hva hvb
      go_enter Tryd.func11, Tryd.ntmps11
      go_wp2_with fail
      refine bodyPost_ret (v := .tuple #[.slice pA qs.length pc, .bool true]) (by simp [results, go_sem]) rfl ?_
      exact P.out
    · have XB := Lib.hid (two_boxes w (Obj.cells #[.int .i64 4, .int .i64 n', .string s', .slice A m' c] 24) (Obj.cells #[.int .i64 4, .int .i64 n2', .string s', .slice A2 m' c2] 24)).1
      have XC := Lib.hid (two_boxes w (Obj.cells #[.int .i64 4, .int .i64 n', .string s', .slice A m' c] 24) (Obj.cells #[.int .i64 4, .int .i64 n2', .string s', .slice A2 m' c2] 24)).2
      have IH := Lib.hid ih
      have CS := Lib.hid hcs
      have hm5 : m' ≤ 20000 := by
        have h1 : m' ≤ sumTo m' fun i => (a i).nodes := sum_ones m' _ fun i hi => alk_pos (hcs i hi)
        simp only [T.nodes] at hN
        omega
      have HLN := Lib.hid (show ∀ i, i < m' → (cc i).length + (a i).nodes ≤ 20000 from fun i hi => by
        have key : ∀ j, j ≤ m' → (cc j).length ≤ ps.length + sumTo j fun i => (a i).nodes := by
          intro j
          induction j with
          | zero => intro _; rw [hc0]; simp [sumTo]
          | succ j ihj =>
            intro hj
            have h1 := ihj (by omega)
            have h2 := alk_len _ _ _ _ (hcs j (by omega))
            simp only [sumTo]
            omega
        have h1 := key i (by omega)
        have h2 := sumTo_upto (fun i => (a i).nodes) (show i + 1 ≤ m' by omega)
        simp only [sumTo] at h2
        simp only [T.nodes] at hN
        omega)
      have HP0 := Lib.hid (show PRw _ (.slice pA ps.length pc) (cc 0) from by rw [hc0]; exact HP.out.below BX.out)
      clear hva hvb ih hcs hN hc0
      go_enter Tryd.func11, Tryd.ntmps11
      go_wp2_with fail
      go_loopw [2, 10, 11] (fun pv kv iv wr => ∃ (i : Nat), kv = .bool true ∧ iv = .int .i64 (i : Int) ∧ i ≤ m' ∧ Hid (PRw wr pv (cc i)) ∧ Below w.heap.size w wr ∧ wr.heap[w.heap.size]? = some (.cells #[.int .i64 4, .int .i64 n', .string s', .slice A m' c] 24 (0, 0)) ∧ wr.heap[w.heap.size + 1]? = some (.cells #[.int .i64 4, .int .i64 n2', .string s', .slice A2 m' c2] 24 (0, 0))) (fun _ _ iv _ => m' - (intOf iv).toNat)
      case atStart => exact ⟨0, rfl, rfl, Nat.zero_le _, HP0, BX.out, XB.out, XC.out⟩
      case round =>
        obtain ⟨i, rfl, rfl, hi, hpr, hb, hxb, hxc⟩ := hrel
        have HB := Lib.hid hb
        have HXB := Lib.hid hxb
        have HXC := Lib.hid hxc
        have PR := Lib.hid hpr.out
        obtain ⟨_, _, _, x3⟩ := box4t hxb
        obtain ⟨_, _, _, y3⟩ := box4t hxc
        have hl1 := heap_lt hxc
        obtain ⟨qA, qc, e, hqc, hqA, _⟩ := hpr.out
        subst e
        clear hb hxb hxc BX XB XC hpr HP0
        by_cases him : i < m'
        · have him' : (i : Int) < (m' : Int) := by omega
          obtain ⟨_, _, _, _, _, _, hargs⟩ := HV.out.args
          obtain ⟨g, o, u0, u1, u2, U0, um, uc, rfl, _, hg, d0, d1, d2, d3, hta⟩ := hargs i him
          obtain ⟨_, _, _, _, _, _, hargs2⟩ := HU.out.args
          obtain ⟨g2, o2, v0, v1, v2, V0, vm, vc, rfl, _, hg2, f0, f1, f2, f3, htb⟩ := hargs2 i him
          have KP := Lib.hid (show ∀ W, Below wr.heap.size wr W → W.cell? ⟨w.heap.size, 3, none⟩ = some (.slice (some ⟨g, o, none⟩) m' c) ∧ W.cell? ⟨w.heap.size + 1, 3, none⟩ = some (.slice (some ⟨g2, o2, none⟩) m' c2) ∧ W.cell? ⟨g, o + i * 4, none⟩ = some (.int .i64 u0) ∧ W.cell? ⟨g, o + i * 4 + 1, none⟩ = some (.int .i64 u1) ∧ W.cell? ⟨g, o + i * 4 + 2, none⟩ = some (.string u2) ∧ W.cell? ⟨g, o + i * 4 + 3, none⟩ = some (.slice U0 um uc) ∧ W.cell? ⟨g2, o2 + i * 4, none⟩ = some (.int .i64 v0) ∧ W.cell? ⟨g2, o2 + i * 4 + 1, none⟩ = some (.int .i64 v1) ∧ W.cell? ⟨g2, o2 + i * 4 + 2, none⟩ = some (.string v2) ∧ W.cell? ⟨g2, o2 + i * 4 + 3, none⟩ = some (.slice V0 vm vc) from fun W hw => by
            have r := fun (j : Nat) => (hw.cell (p := ⟨g, j, none⟩) (by show g < wr.heap.size; have := HB.out.size; omega)).trans (HB.out.cell (p := ⟨g, j, none⟩) hg)
            have r' := fun (j : Nat) => (hw.cell (p := ⟨g2, j, none⟩) (by show g2 < wr.heap.size; have := HB.out.size; omega)).trans (HB.out.cell (p := ⟨g2, j, none⟩) hg2)
            exact ⟨(hw.cell (p := ⟨w.heap.size, 3, none⟩) (by show w.heap.size < wr.heap.size; omega)).trans x3, (hw.cell (p := ⟨w.heap.size + 1, 3, none⟩) hl1).trans y3, (r _).trans d0, (r _).trans d1, (r _).trans d2, (r _).trans d3, (r' _).trans f0, (r' _).trans f1, (r' _).trans f2, (r' _).trans f3⟩)
          have hgl : g < wr.heap.size := by have := HB.out.size; omega
          have hgl2 : g2 < wr.heap.size := by have := HB.out.size; omega
          have b0 := (Below.refl wr.heap.size wr).drew
          have CI := Lib.hid (IH.out i (b i) (cc i) (cc (i + 1)) _ _ _ _ _ wr.drew (CS.out i him) ((hta.below HB.out).below b0) ((htb.below HB.out).below b0) (PR.out.below b0) (HLN.out i him))
          clear hargs hargs2 d0 d1 d2 d3 f0 f1 f2 f3 hta htb
          go_wp2_with fail
          go_region_held3 (fun W => W.cell? ⟨w.heap.size, 3, none⟩ = some (.slice (some ⟨g, o, none⟩) m' c) ∧ W.cell? ⟨w.heap.size + 1, 3, none⟩ = some (.slice (some ⟨g2, o2, none⟩) m' c2) ∧ W.cell? ⟨g, o + i * 4, none⟩ = some (.int .i64 u0) ∧ W.cell? ⟨g, o + i * 4 + 1, none⟩ = some (.int .i64 u1) ∧ W.cell? ⟨g, o + i * 4 + 2, none⟩ = some (.string u2) ∧ W.cell? ⟨g, o + i * 4 + 3, none⟩ = some (.slice U0 um uc) ∧ W.cell? ⟨g2, o2 + i * 4, none⟩ = some (.int .i64 v0) ∧ W.cell? ⟨g2, o2 + i * 4 + 1, none⟩ = some (.int .i64 v1) ∧ W.cell? ⟨g2, o2 + i * 4 + 2, none⟩ = some (.string v2) ∧ W.cell? ⟨g2, o2 + i * 4 + 3, none⟩ = some (.slice V0 vm vc))
            (first | (with_reducible exact KP.out _ b0) | (with_reducible exact KP.out _ b5))
            (((with_reducible refine CI.out.mono ?_); rintro e w5 ⟨z, rfl, hz, h5⟩; have b5 := b0.trans h5))
          have B5 := Lib.hid (HB.out.trans (b5.mono HB.out.size))
          have X5 := Lib.hid ((b5.block _ (by omega)).trans HXB.out)
          have Y5 := Lib.hid ((b5.block _ hl1).trans HXC.out)
          have Z5 := Lib.hid hz
          clear hz h5 b5 b0 x3 y3
          go_wp2_with fail
          go_roundw
          case rel => exact ⟨i + 1, rfl, by go_num, him, Z5, B5.out, X5.out, Y5.out⟩
          case measure => simp [intOf]; omega
        · obtain rfl : i = m' := by omega
          have P := Lib.hid (show AlkP w qs (.returned (.tuple #[.slice qA (cc i).length qc, .bool true])) wr from ⟨_, rfl, by rw [← hcm]; exact PR.out, HB.out⟩)
          go_wp2_with fail
          refine bodyPost_ret (v := .tuple #[.slice qA (cc i).length qc, .bool true]) (by simp [results, go_sem]) rfl ?_
          exact P.out
end Go.Proofs.YtiefbdblefliaaaDoor
