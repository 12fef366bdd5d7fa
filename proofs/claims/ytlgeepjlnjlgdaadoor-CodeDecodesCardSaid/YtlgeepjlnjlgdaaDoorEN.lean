/- The walk through the program's code.Encode: a clause's instructions. -/
import Derived.Test.YtlgeepjlnjlgdaaDoorEM
import Derived.Test.YtlgeepjlnjlgdaaDoorEL
import Derived.Deep.Onto
namespace Go.Proofs.YtlgeepjlnjlgdaaDoor
open Go.RowKit

/-- The first instruction's number is written. -/
theorem head_own {w : World} {B g c : Nat} {l : List Ins} (h : IRw w B (.slice (some ⟨g, 0, none⟩) (⟨1, 0, ⟨#[]⟩⟩ :: l : List Ins).length c) (⟨1, 0, ⟨#[]⟩⟩ :: l)) (n : Int) : IRw (w.setCell ⟨g, 1, none⟩ (.int .i64 n)) B (.slice (some ⟨g, 0, none⟩) (⟨1, n, ⟨#[]⟩⟩ :: l : List Ins).length c) (⟨1, n, ⟨#[]⟩⟩ :: l) := by
  have := setCells_own h [.int .i64 n] (o := 1) (by simp only [List.length_cons, List.length_nil]; omega)
  exact this
theorem nodes_in : ∀ {gs : List T} {i : Nat} (h : i < gs.length), (gs[i]'h).nodes + nodesL (gs.take i) ≤ nodesL gs := by
  intro gs i h
  have e : nodesL gs = nodesL (gs.take i) + nodesL (gs.drop i) := by rw [← nodesL_app, List.take_append_drop]
  have e2 : gs.drop i = gs[i]'h :: gs.drop (i + 1) := List.drop_eq_getElem_cons h
  rw [e, e2]
  simp only [nodesL, List.map_cons, List.sum_cons]
  omega
set_option maxRecDepth 100000 in
set_option maxHeartbeats 8000000 in
theorem pencode_any {th : T} {gs : List T} {w : World} {S S' P : Nat → Prop} {B' : Nat} {hv gv : Value} {qs : List Q6} (hok : th.ok) (hgok : ∀ g ∈ gs, g.ok) (hth : TP w S th hv) (hgs : TL w B' S' P gv gs qs) (hfew : nodesL gs ≤ 7000) (hfew2 : gs.length ≤ 7000) :
    Calls Tryd.prog 6 #[hv, gv] w fun e w' => EncP th gs w e w' := by
  obtain ⟨q0, q1, q2, q3, q4, q5, rfl⟩ := hth.agg
  obtain ⟨A, c, rfl, hc, hA, hx⟩ := hgs.all
  have HTH := Lib.hid hth
  have HGS := Lib.hid hgs
  have HOK := Lib.hid hok
  have HGO := Lib.hid hgok
  have hn1 : th.nodes ≤ 4000 := hok.2
  obtain ⟨W, hW⟩ : ∃ W, W = (((w.alloc (Obj.cells #[.int .i64 q0, .int .i64 q1, .string q2, .slice q3 q4 q5] 24)).alloc (Obj.cells #[.int .i64 1, .int .i64 0, .string ⟨#[]⟩] 50)).alloc (.map #[] 0)).alloc (Obj.cells #[.slice (some ⟨w.heap.size + 1, 0, none⟩) 1 1, .map (some (w.heap.size + 2))] 53) := ⟨_, rfl⟩
  have HW := Lib.hid hW
  have BX := Lib.hid (show Below w.heap.size w W by rw [hW]; exact belA (belA (belA (belA (Below.refl _ _) _) _) _) _)
  have CD := Lib.hid (show Cd W (w.heap.size + 3) (w.heap.size + 2) (w.heap.size + 1) (.slice (some ⟨w.heap.size + 1, 0, none⟩) 1 1) [⟨1, 0, ⟨#[]⟩⟩] [] by
    rw [hW]
    refine ⟨heap_at _ _ (by simp), ⟨rfl, .inr ⟨_, 1, _, rfl, by omega, ((Below.heap_alloc _ _ _ (by simp)).trans (Below.heap_alloc _ _ _ (by simp))).trans (heap_at _ _ (by simp)), Nat.le_refl _, by simp [maxLen], rfl, by simp [insCells, Ins.cells]⟩⟩, ?_⟩
    have hm := IX.made ((w.alloc (Obj.cells #[.int .i64 q0, .int .i64 q1, .string q2, .slice q3 q4 q5] 24)).alloc (Obj.cells #[.int .i64 1, .int .i64 0, .string ⟨#[]⟩] 50))
    have e : slotM [] = fun _ => none := rfl
    rw [e]
    refine IX.keep (by simpa using hm) ?_
    exact Below.heap_alloc _ _ _ (by simp))
  have C0 := Lib.hid (cterm_any th hok (w.heap.size + 3) (w.heap.size + 2) (w.heap.size + 1) _ [⟨1, 0, ⟨#[]⟩⟩] [] _ W S (HTH.out.below BX.out) CD.out (by omega) (by omega) (by omega) (by simp; omega) (by simp; omega))
  have MK : ∀ W : World, (Instr.makeMap 51 none).run Tryd.prog W = .ok (.map (some W.heap.size)) (W.alloc (.map #[] 0)) := fun W => run_makeMap _ W
  clear hth hgs hok hgok hx hW
  go_enter Tryd.func6, Tryd.ntmps6
  go_wp2_with fail
  rw [← HW.out]
  refine C0.out.mono ?_
  rintro e w1 ⟨rfl, lv1, hcd1, hk1⟩
  have B1 := Lib.hid (BX.out.trans (hk1.low.mono (Nat.le_succ _)))
  obtain ⟨r0, hr0⟩ : ∃ r0, r0 = codeT th [] := ⟨_, rfl⟩
  have HR0 := Lib.hid hr0
  have HRL := Lib.hid (show r0.1.length ≤ 4000 ∧ r0.2.length ≤ 4000 by
    obtain ⟨j1, j2⟩ := codeT_len th HOK.out.1.kinds []
    rw [hr0]
    simp at j2
    exact ⟨by omega, by omega⟩)
  rw [← hr0] at hcd1
  have C1 := Lib.hid hcd1
  clear hcd1 hk1 C0 CD hr0 HW BX MK
  go_wp2_with fail
  go_loopw [18] (fun iv wr => ∃ (i : Nat) (lq : Value), iv = .int .i64 (i : Int) ∧ i ≤ gs.length ∧ Cd wr (w.heap.size + 3) (w.heap.size + 2) (w.heap.size + 1) lq (⟨1, 0, ⟨#[]⟩⟩ :: (codeG (gs.take i) r0).1) (codeG (gs.take i) r0).2 ∧ Below w.heap.size w wr) (fun iv _ => gs.length - (intOf iv).toNat)
  case atStart => exact ⟨0, lv1, rfl, Nat.zero_le _, C1.out, B1.out⟩
  case round =>
    clear C1 B1
    obtain ⟨i, lq, rfl, hi, hcd, hb⟩ := hrel
    have HLen := Lib.hid (show (codeG (gs.take i) r0).1.length + (nodesL gs - nodesL (gs.take i)) ≤ 19000 ∧ (codeG (gs.take i) r0).2.length + (nodesL gs - nodesL (gs.take i)) ≤ 19000 by
      obtain ⟨j1, j2⟩ := codeG_len (gs.take i) r0 fun x hx => (HGO.out x (List.mem_of_mem_take hx)).1.kinds
      have h1 : (gs.take i).length ≤ gs.length := by rw [List.length_take]; omega
      have h2 : nodesL gs = nodesL (gs.take i) + nodesL (gs.drop i) := by rw [← nodesL_app, List.take_append_drop]
      have h3 := HRL.out
      omega)
    obtain ⟨r2, hr2⟩ : ∃ r2, r2 = codeG (gs.take i) r0 := ⟨_, rfl⟩
    rw [← hr2] at hcd HLen
    have HR2 := Lib.hid hr2
    obtain ⟨l2, hl2⟩ : ∃ l2 : List Ins, l2 = ⟨1, 0, ⟨#[]⟩⟩ :: r2.1 := ⟨_, rfl⟩
    have HL2 := Lib.hid hl2
    have HL2N := Lib.hid (show l2.length = r2.1.length + 1 by rw [hl2]; simp)
    have hl2b : l2.length ≤ 19001 := by have := HL2N.out; have := HLen.out.1; omega
    rw [← hl2] at hcd
    have C2 := Lib.hid hcd
    have B2 := Lib.hid hb
    have hw2 := hb.size
    have hL1 : r2.1.length ≤ 19000 := by have := HLen.out.1; omega
    have hL2 : r2.2.length ≤ 19000 := by have := HLen.out.2; omega
    obtain ⟨AL, cl, rfl, _, _, _⟩ := hcd.own.all
    have c0 := cell_of_row wr (w.heap.size + 3) 0 _ _ _ C2.out.box
    have c1 := cell_of_row wr (w.heap.size + 3) 1 _ _ _ C2.out.box
    have hXl := heap_lt C2.out.box
    have f2 := unfrozenX C2.out.box
    clear hcd hb hr2 hl2
    by_cases hig : i < gs.length
    · have hig' : (i : Int) < (gs.length : Int) := by omega
      obtain ⟨g, q, hA', _, hgl, _, d0, d1, d2, d3, ht⟩ := (HGS.out.below B2.out).at_ rfl hig
      subst hA'
      have O2 := Lib.hid C2.out.own
      go_wp2_with (at_builtin; go_must (refine wpList_append_at _ rfl _ _ _ rfl elIns (w.heap.size + 1) _ l2.length (insCells l2) rfl ((O2.out.alloc _).alloc _) (some ⟨wr.heap.size + 1, 0, none⟩) 1 1 (insCells [⟨7, 0, ⟨#[]⟩⟩]) rfl (fun h => by cases h) (Nat.le_refl _) rfl (fun _ => ⟨_, 0, rfl, fun j u hu => ?_⟩) (insCells_small _) (by omega) (by unfold maxLen; omega) (by simp; omega) ?_))
      · simpa [insCells, Ins.cells] using hu
      intro v3 w3 hown3 hg3 hat3
      obtain ⟨l3, hl3⟩ : ∃ l3, l3 = l2 ++ [⟨7, 0, ⟨#[]⟩⟩] := ⟨_, rfl⟩
      have HL3 := Lib.hid hl3
      have HL3N := Lib.hid (show l3.length = l2.length + 1 by rw [hl3]; simp)
      have O3 := Lib.hid (show IRw w3 (w.heap.size + 1) v3 l3 by
        unfold IRw
        rw [hl3, ← insCells_app, List.length_append]
        exact hown3)
      obtain ⟨W2, hW2⟩ : ∃ W2, W2 = (wr.alloc (Obj.cells #[.int .i64 q.k, .int .i64 q.n, .string q.s, .slice q.A q.m q.c] 24)).alloc (Obj.cells #[.int .i64 7, .int .i64 0, .string ⟨#[]⟩] 50) := ⟨_, rfl⟩
      have BW := Lib.hid (show Below wr.heap.size wr W2 by rw [hW2]; exact belA (belA (Below.refl _ _) _) _)
      rw [← hW2] at hg3
      have OW := Lib.hid (show IRw W2 (w.heap.size + 1) _ l2 from own_below O2.out BW.out)
      have KW := Lib.hid (Kp.grown hg3 OW.out (by have := BW.out.size; omega))
      have I2 := Lib.hid (C2.out.im.keep (BW.out.block _ C2.out.im.im.lt))
      have X3 := Lib.hid (KW.out.keep _ _ _ _ ((BW.out.block _ hXl).trans C2.out.box) (by decide))
      have G2 := Lib.hid (show W2.heap[wr.heap.size]? = some (.cells #[.int .i64 q.k, .int .i64 q.n, .string q.s, .slice q.A q.m q.c] 24 (0, 0)) by rw [hW2]; exact (Below.heap_alloc _ _ _ (by simp)).trans (heap_alloc_new _ _))
      have c3 := cell_of_row w3 (w.heap.size + 3) 0 _ _ _ X3.out
      have f3 := unfrozenX X3.out
      obtain ⟨A3, cp3, rfl, _, _, _⟩ := O3.out.all
      obtain ⟨lv4, hcd4, hk4, hg4⟩ := cd_end (vs := r2.2) X3.out O3.out (grown_map hg3 OW.out I2.out (Below.refl _ _)) I2.out KW.out (by omega) (by omega) G2.out
      obtain ⟨w4, hw4⟩ : ∃ w4, w4 = w3.setCell ⟨w.heap.size + 3, 0, none⟩ (.slice A3 l3.length cp3) := ⟨_, rfl⟩
      obtain ⟨x0, x1, x2, x3⟩ := box4t hg4
      rw [← hw4] at hcd4 hk4 hg4
      have HW4 := Lib.hid hw4
      have C4 := Lib.hid hcd4
      have B4 := Lib.hid (B2.out.trans ((BW.out.mono (by omega)).trans (hk4.low.mono (Nat.le_succ _))))
      obtain ⟨t5, ht5⟩ : ∃ t5, t5 = gs[i]'hig := ⟨_, rfl⟩
      have HT5 := Lib.hid ht5
      have hgn := HGO.out _ (List.getElem_mem hig)
      rw [← ht5] at hgn
      have TP4 := Lib.hid (show TP w4 _ t5 q.val from hk4.tp ⟨_, _, (BW.out.block _ hXl).trans C2.out.box⟩ (by rw [ht5]; exact ht.below BW.out))
      have hgn2 : t5.nodes ≤ 4000 := hgn.2
      have CI := Lib.hid (cterm_any t5 hgn (w.heap.size + 3) (w.heap.size + 2) (w.heap.size + 1) _ l3 r2.2 q.val w4 _ TP4.out C4.out (by omega) (by omega) (by omega) (by have := HL3N.out; omega) (by omega))
      clear hown3 hg3 hat3 hl3 hW2 hw4 hcd4 hk4 hg4 hgn ht ht5 d0 d1 d2 d3
      go_wp2_with fail
      have CI2 := CI.out
      rw [HW4.out] at CI2
      refine CI2.mono ?_
      rintro e w5 ⟨rfl, lv5, hcd5, hk5⟩
      have C5 := Lib.hid (show Cd w5 (w.heap.size + 3) (w.heap.size + 2) (w.heap.size + 1) lv5 (⟨1, 0, ⟨#[]⟩⟩ :: (codeG (gs.take (i + 1)) r0).1) (codeG (gs.take (i + 1)) r0).2 by
        rw [List.take_succ_eq_append_getElem hig, codeG_snoc, ← HR2.out, ← HT5.out]
        rw [HL3.out, HL2.out] at hcd5
        simpa using hcd5)
      have B5 := Lib.hid (show Below w.heap.size w w5 by
        rw [← HW4.out] at hk5
        exact B4.out.trans (hk5.low.mono (Nat.le_succ _)))
      clear hcd5 hk5 CI2 CI x0 x1 x2 x3
      go_wp2_with fail
      go_roundw
      case rel => exact ⟨i + 1, lv5, by go_num, hig, C5.out, B5.out⟩
      case measure => simp [intOf]; omega
    · have hig' : ¬ (i : Int) < (gs.length : Int) := by omega
      have hin : i = gs.length := by omega
      have HE := Lib.hid (show r2 = codeG gs (codeT th []) by rw [HR2.out, hin, List.take_length, HR0.out])
      obtain ⟨n, hn⟩ : ∃ n, n = r2.2.length := ⟨_, rfl⟩
      have HN := Lib.hid hn
      have hpos : 0 < l2.length := by have := HL2N.out; omega
      have hposi : (0 : Int) < (l2.length : Int) := by omega
      obtain ⟨A', c', he, _, _, _, hx⟩ := own_open C2.out.own
      injection he with e1 _ e3
      obtain ⟨g0, cur, hA', _, hh0, _⟩ := hx hpos
      rw [hA'] at e1
      subst e1
      subst e3
      have hgX : w.heap.size + 3 ≠ g0 := by
        intro e
        have h1 := C2.out.box
        rw [e, hh0] at h1
        injection h1 with h1
        injection h1 with _ h1 _
        exact absurd h1 (by decide)
      have hgm : w.heap.size + 2 ≠ g0 := by
        intro e
        obtain ⟨D, ⟨es, clock, hm, _⟩, _⟩ := C2.out.im
        rw [e, hh0] at hm
        injection hm with hm
        cases hm
      obtain ⟨_, e2, _, hcl⟩ := insrow (i := 0) C2.out.own rfl hpos
      injection e2 with e2
      injection e2 with e2 _
      subst e2
      have d1 := hcl 1 (by omega)
      have f1 := unfrozenX hh0
      have hlen : ∀ ty : TypeId, (Builtin.len_ #[51] ty #[.map (some (w.heap.size + 2))]).run Tryd.prog wr.drew = .ok (.int .i64 (n : Int)) wr.drew := fun ty => by
        rw [hn]
        exact (C2.out.im.keep (w' := wr.drew) rfl).len Tryd.underlying51 ty
      have d1' : ∃ u, wr.cell? ⟨g0, 1, none⟩ = some (.int .i64 u) := by
        rw [d1]
        rw [show l2[0] = (⟨1, 0, ⟨#[]⟩⟩ : Ins) by simp [HL2.out]]
        exact ⟨0, rfl⟩
      obtain ⟨u1, d1'⟩ := d1'
      obtain ⟨A5, c5, hA5⟩ : ∃ (A : Option Addr) (c : Nat), True := ⟨none, 0, trivial⟩
      have HH0 := Lib.hid hh0
      clear hx hcl hin hn d1 hA5 hh0
      go_wp2_with fail
      go_region
      obtain ⟨l3, hl3⟩ : ∃ l3 : List Ins, l3 = ⟨1, (n : Int), ⟨#[]⟩⟩ :: r2.1 := ⟨_, rfl⟩
      have O3 := Lib.hid (show IRw (wr.setCell ⟨g0, 1, none⟩ (.int .i64 (n : Int))) (w.heap.size + 1) (.slice (some ⟨g0, 0, none⟩) l2.length cl) l3 by
        have := C2.out.own
        rw [HL2.out] at this ⊢
        rw [hl3]
        exact head_own this _)
      have HL3 := Lib.hid hl3
      have HL3N := Lib.hid (show l3.length = l2.length by rw [hl3, HL2.out]; simp)
      have OO3 := Lib.hid (show (wr.setCell ⟨g0, 1, none⟩ (.int .i64 (n : Int))).ownsRow (w.heap.size + 1) 50 3 (.slice (some ⟨g0, 0, none⟩) l2.length cl) l2.length (insCells l3) by
        have := O3.out
        unfold IRw at this
        rw [HL3N.out] at this
        exact this)
      clear hl3
      go_wp2_with (at_builtin; go_must (refine wpList_append_at _ rfl _ _ _ rfl elIns (w.heap.size + 1) _ l2.length (insCells l3) rfl (own_below OO3.out ((Below.refl _ _).alloc (Nat.le_refl _) _).drew) (some ⟨wr.heap.size, 0, none⟩) 1 1 (insCells [⟨8, 0, ⟨#[]⟩⟩]) rfl (fun h => by cases h) (Nat.le_refl _) rfl (fun _ => ⟨_, 0, rfl, fun j u hu => ?_⟩) (insCells_small _) (by omega) (by unfold maxLen; omega) (by simp; omega) ?_))
      · have hj : [Value.int .i64 8, .int .i64 0, .string ⟨#[]⟩][j]? = some u := hu
        have hb := heap_at (wr.setCell ⟨g0, 1, none⟩ (.int .i64 (n : Int))) (g := wr.heap.size) (Obj.cells #[.int .i64 8, .int .i64 0, .string ⟨#[]⟩] 50) (by simp)
        rw [World.cell?_drew, Nat.zero_add, cell_of_row _ _ j _ _ _ hb]
        simpa using hj
      intro v6 w6 hown6 hg6 hat6
      have hZ0 : w.heap.size + 1 ≤ g0 := (C2.out.own.lt g0 rfl).1
      have BZ := Lib.hid (show Below (w.heap.size + 1) wr ((wr.setCell ⟨g0, 1, none⟩ (.int .i64 (n : Int))).alloc (Obj.cells #[.int .i64 8, .int .i64 0, .string ⟨#[]⟩] 50)).drew from
        (((Below.refl _ _).setCell (p := ⟨g0, 1, none⟩) hZ0 _).alloc (by simp; omega) _).drew)
      have B6 := Lib.hid (show Below w.heap.size w w6 from B2.out.trans ((BZ.out.mono (Nat.le_succ _)).trans ((Kp.grown (B := w.heap.size) hg6 (World.ownsRow.mono (own_below OO3.out ((Below.refl _ _).alloc (Nat.le_refl _) _).drew) (Nat.le_succ _)) (by simp; omega)).low)))
      have O6 := Lib.hid (show IRw w6 w.heap.size v6 (encN th gs) by
        have e : encN th gs = l3 ++ [⟨8, 0, ⟨#[]⟩⟩] := by rw [HL3.out, HN.out, HE.out]; rfl
        unfold IRw
        rw [e, ← insCells_app, List.length_append, HL3N.out]
        exact World.ownsRow.mono hown6 (Nat.le_succ _))
      clear hown6 hg6 hat6
      go_wp2_with fail
      go_ret
      exact ⟨_, rfl, O6.out, Kp.of B6.out (Nat.le_refl _)⟩
end Go.Proofs.YtlgeepjlnjlgdaaDoor
