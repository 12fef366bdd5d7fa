/- The reference's store: Mark, Undo. The reference's store: Set, Fresh. The reference's store: Fresh. Both stores side by side: plain lemmas on what the marks bring back; where a law stands. Both stores side by side: their calls in pairs. Variables of any number: known, walk, Resolve; Unify of one that the store has not. The walk through the law StoreAttrs. -/
import Derived.Test.YtgoedlbdnmhppaaSb1
import Derived.Deep.AppendLies
import Derived.Test.YtgoedlbdnmhppaaCmp
import Derived.Test.YtgoedlbdnmhppaaSt4
import Derived.OwnWalk
import Derived.Deep.RegionHeld3
namespace Go.Proofs.Ytgoedlbdnmhppaa
open Go.RowKit

theorem PV.one (p : PV) : ∀ u ∈ p.vals, u.oneCell' = true := by
  intro u hu
  simp only [PV.vals, List.mem_cons, List.not_mem_nil, or_false] at hu
  rcases hu with rfl | rfl | rfl <;> rfl
/-- A new row of marks, its box written. -/
theorem RM.remark {w w2 W : World} {B rb : Nat} {p : PV} {Qs : List PV} {m0 : Value} {g cap : Nat} (hge : B ≤ rb) (hb : w2.heap[rb]? = some (.cells #[.int .i64 (p.n : Int), .slice p.LA p.ln p.lc, .slice p.AA p.am p.ac, m0] 35 (0, 0)))
    (hown : w2.ownsRow B 32 3 (.slice (some ⟨g, 0, none⟩) Qs.length cap) Qs.length (Qs.flatMap PV.vals)) (hF : RF B w w2) (hW : W = w2.setCell ⟨rb, 3, none⟩ (.slice (some ⟨g, 0, none⟩) Qs.length cap)) : RM W B rb p Qs ∧ RF B w W := by
  have h2 := blk_set hb 3 (.slice (some ⟨g, 0, none⟩) Qs.length cap)
  rw [← hW] at h2
  refine ⟨⟨⟨some ⟨g, 0, none⟩, cap, by simpa using h2, own_keep hown fun k hk => ?_⟩, hge⟩, hF.trans ⟨?_, fun k o hk hn => ?_⟩⟩
  · obtain ⟨cs, f, hh⟩ := Go.Lib.ownsRow_kind hown k hk
    rw [hW]
    refine Below.heap_setCell _ _ _ k ?_
    rintro rfl
    rw [hb] at hh
    injection hh with hh
    injection hh with _ hh
    exact absurd hh (by decide)
  · rw [hW]; exact (Below.refl _ _).setCell (p := ⟨rb, 3, none⟩) hge _
  · rw [hW]
    refine (Below.heap_setCell _ _ _ k ?_).trans hk
    rintro rfl
    rw [hb] at hk
    injection hk with hk
    exact (hn _ _ _ hk.symm).1 rfl
/-- An append onto the marks leaves all else alone. -/
theorem RF.grown {w w1 w2 : World} {B k n : Nat} {v : Value} {xs : List Value} (hB : B ≤ w.heap.size) (h1 : Below w.heap.size w w1) (hx : w1.ownsRow B 32 k v n xs) (hg : w1.grownBy w2 v.ownBlock) : RF B w w2 :=
  ⟨(h1.mono hB).grown hg (Nat.le_trans hB h1.size) fun k hk => (hx.lt k hk).1, fun k o hk hn => by
    have hk1 := (h1.block k (heap_lt hk)).trans hk
    refine (hg.block k (heap_lt hk1) fun h => ?_).trans hk1
    obtain ⟨cs', f', hh'⟩ := Go.Lib.ownsRow_kind hx k h.symm
    rw [hk1] at hh'
    injection hh' with hh'
    exact (hn _ _ _ hh').2 rfl⟩
theorem keepBoxR {w1 w2 : World} {B k n rb : Nat} {v : Value} {xs : List Value} {cs : Array Value} {f : Nat × Nat} (hb : w1.heap[rb]? = some (.cells cs 35 f)) (hx : w1.ownsRow B 32 k v n xs) (hg : w1.grownBy w2 v.ownBlock) : w2.heap[rb]? = some (.cells cs 35 f) := by
  refine (hg.block rb (heap_lt hb) fun h => ?_).trans hb
  obtain ⟨cs', f', hh'⟩ := Go.Lib.ownsRow_kind hx rb h.symm
  rw [hb] at hh'
  injection hh' with hh'
  injection hh' with _ hh'
  exact absurd hh' (by decide)
set_option maxRecDepth 100000 in
set_option maxHeartbeats 4000000 in
theorem rmark9_any {w : World} {B rb : Nat} {p : PV} {Ps : List PV} (h : RM w B rb p Ps) (hM : Ps.length ≤ 1000000) :
    Calls Try.prog 11 #[.pointer (some ⟨rb, 0, none⟩)] w fun e w' => e = .returned (.int .i64 (Ps.length : Int)) ∧ RM w' B rb p (Ps ++ [p]) ∧ RF B w w' := by
  obtain ⟨MA, mc, b0, b1, b2, b3, bf, hl, hb, h1⟩ := h.box
  have HB := Lib.hid hb
  have HGE := Lib.hid h.ge
  have H1 := Lib.hid h1
  have hBs : B ≤ w.heap.size := by have := h.ge; omega
  obtain ⟨item, ii1, ii2, ii3, ii4⟩ := elState.hi
  clear hb h h1
  go_enter Try.func11, Try.ntmps11
  go_wp2_with fail
  go_region_law (refine step_append_lies _ rfl _ _ _ rfl B 32 item (.agg #[.int .i64 0, .slice none 0 0, .slice none 0 0]) 3 56 Try.underlying33 ii1 ii2 ii3 ii4 rfl (by omega) _ Ps.length _ rfl (own_below H1.out (by first | exact ((Below.refl _ _).drew).alloc (Nat.le_refl _) _ | exact ((Below.refl _ _).alloc (Nat.le_refl _) _).drew | exact (Below.refl _ _).alloc (Nat.le_refl _) _)) ⟨w.heap.size, 0, none⟩ 1 1 [.int .i64 (p.n : Int), .slice p.LA p.ln p.lc, .slice p.AA p.am p.ac] rfl rfl (World.news_of_block (heap_alloc_new _ _)) (by intro u hu; simp only [List.mem_cons, List.not_mem_nil, or_false] at hu; rcases hu with rfl | rfl | rfl <;> rfl) (by omega) (by unfold maxLen; omega) (by omega) (by simp; omega) _ rfl ?_; intro g1 cap1 w10 hown1 hg1 hat1 hlt1; have Z10 := keepBoxR (((by first | exact ((Below.refl _ _).drew).alloc (Nat.le_refl _) _ | exact ((Below.refl _ _).alloc (Nat.le_refl _) _).drew | exact (Below.refl _ _).alloc (Nat.le_refl _) _ : Below w.heap.size w _).block _ hl).trans HB.out) (own_below H1.out (by first | exact ((Below.refl _ _).drew).alloc (Nat.le_refl _) _ | exact ((Below.refl _ _).alloc (Nat.le_refl _) _).drew | exact (Below.refl _ _).alloc (Nat.le_refl _) _)) hg1; have z3 := cell_of_row w10 rb 3 _ _ _ Z10; have zl := heap_lt Z10; have zf := unfrozen Z10)
  all_goals
    have S := Lib.hid (RM.remark (Qs := Ps ++ [p]) HGE.out Z10 (by rw [flat_snoc, List.length_append]; exact hown1) (RF.grown hBs (by first | exact ((Below.refl _ _).drew).alloc (Nat.le_refl _) _ | exact ((Below.refl _ _).alloc (Nat.le_refl _) _).drew | exact (Below.refl _ _).alloc (Nat.le_refl _) _) (own_below H1.out (by first | exact ((Below.refl _ _).drew).alloc (Nat.le_refl _) _ | exact ((Below.refl _ _).alloc (Nat.le_refl _) _).drew | exact (Below.refl _ _).alloc (Nat.le_refl _) _)) hg1) rfl)
    have Y3 := cell_of_row _ rb 3 _ _ _ (blk_set Z10 3 (.slice (some ⟨g1, 0, none⟩) (Ps.length + 1) cap1))
    clear hown1 hg1 hat1 hlt1 Z10 b0 b1 b2 b3
    go_wp2_with fail
    go_ret
    have h := S.out
    rw [List.length_append] at h
    exact ⟨by simp, h⟩
set_option maxRecDepth 100000 in
theorem rundo9_out {w : World} {B rb : Nat} {p : PV} {Ps : List PV} (h : RM w B rb p Ps) {n : Int} (ho : n < 0 ∨ (Ps.length : Int) ≤ n) :
    Calls Try.prog 19 #[.pointer (some ⟨rb, 0, none⟩), .int .i64 n] w fun e w' => e = .returned (.int .i64 1) ∧ w' = w := by
  obtain ⟨MA, mc, b0, b1, b2, b3, bf, hl, hb, h1⟩ := h.box
  clear hb h h1
  by_cases hn : n < 0
  · go_enter Try.func19, Try.ntmps19
    go_wp2_with fail
    go_ret
    exact ⟨rfl, rfl⟩
  · have hge : n ≥ (Ps.length : Int) := by omega
    clear ho
    go_enter Try.func19, Try.ntmps19
    go_wp2_with fail
    go_ret
    exact ⟨rfl, rfl⟩
set_option maxRecDepth 100000 in
set_option maxHeartbeats 4000000 in
theorem rundo9_in {w : World} {B rb k : Nat} {p q : PV} {Ps : List PV} (h : RM w B rb p Ps) (hM : Ps.length ≤ 1000000) (hk : Ps[k]? = some q) :
    Calls Try.prog 19 #[.pointer (some ⟨rb, 0, none⟩), .int .i64 (k : Int)] w fun e w' => e = .returned (.int .i64 0) ∧ RM w' B rb q (Ps.take (k + 1)) ∧ RF B w w' := by
  obtain ⟨MA, mc, b0, b1, b2, b3, bf, hl, hb, h1⟩ := h.box
  have hkl := lt_of_at hk
  obtain ⟨g0, rfl, hg0, ⟨cs0, hh0, hz0⟩, hc0, hel⟩ := own_elem pvals_len h1 hk rfl
  have o0 := hel 0 _ rfl
  have o1 := hel 1 _ rfl
  have o2 := hel 2 _ rfl
  simp only [Nat.add_zero] at o0
  have hl0 := heap_lt hh0
  have hn0 : ¬ ((k : Int) < 0) := by omega
  have hnge : ¬ ((k : Int) ≥ (Ps.length : Int)) := by omega
  have hni : (k : Int) < (Ps.length : Int) := by omega
  have hk1 : k + 1 ≤ mc := by omega
  have hkl' : (k : Int) + 1 ≤ (Ps.length : Int) := by omega
  have hBs : B ≤ w.heap.size := by have := h.ge; omega
  have P3 := blk_set (blk_set (blk_set hb 0 (.int .i64 (q.n : Int))) 1 (.slice q.LA q.ln q.lc)) 2 (.slice q.AA q.am q.ac)
  obtain ⟨W, hW⟩ : ∃ W, W = ((w.setCell ⟨rb, 0, none⟩ (.int .i64 (q.n : Int))).setCell ⟨rb, 1, none⟩ (.slice q.LA q.ln q.lc)).setCell ⟨rb, 2, none⟩ (.slice q.AA q.am q.ac) := ⟨_, rfl⟩
  rw [← hW] at P3
  have hWk : ∀ b, b ≠ rb → W.heap[b]? = w.heap[b]? := fun b hb' => by
    rw [hW]; exact (Below.heap_setCell _ _ _ b hb').trans ((Below.heap_setCell _ _ _ b hb').trans (Below.heap_setCell _ _ _ b hb'))
  have hWs : W.heap.size = w.heap.size := by rw [hW]; simp
  have hne : g0 ≠ rb := by
    rintro rfl
    rw [hb] at hh0
    injection hh0 with hh0
    injection hh0 with _ hh0
    exact absurd hh0 (by decide)
  have RW := Lib.hid (show RF B w W from ⟨by rw [hW]; exact (((Below.refl _ _).setCell (p := ⟨rb, 0, none⟩) h.ge _).setCell (p := ⟨rb, 1, none⟩) h.ge _).setCell (p := ⟨rb, 2, none⟩) h.ge _, fun b o hbo hn => (hWk b (by rintro rfl; rw [hb] at hbo; injection hbo with hbo; exact (hn _ _ _ hbo.symm).1 rfl)).trans hbo⟩)
  have h2 := ownsRow_take h1 (k := k + 1) (by omega)
  have e2 : (Ps.flatMap PV.vals).take ((k + 1) * 3) = (Ps.take (k + 1)).flatMap PV.vals := by
    conv => lhs; rw [← List.take_append_drop (k + 1) Ps, List.flatMap_append]
    exact List.take_left' (by rw [flat_len PV.vals pvals_len, List.length_take, Nat.min_eq_left hkl])
  rw [e2] at h2
  have h3 : W.ownsRow B 32 3 (.slice (some ⟨g0, 0, none⟩) (k + 1) mc) (k + 1) ((Ps.take (k + 1)).flatMap PV.vals) := own_keep h2 fun g hg => hWk g (by cases hg; exact hne)
  have c3 := cell_of_row W rb 3 _ _ _ P3
  have wl := heap_lt P3
  have HP3 := Lib.hid P3
  have HGE := Lib.hid h.ge
  have H3 := Lib.hid h3
  have hlen : (Ps.take (k + 1)).length = k + 1 := by rw [List.length_take, Nat.min_eq_left hkl]
  have HLEN := Lib.hid hlen
  have hBW : B ≤ W.heap.size := by omega
  have HWS := Lib.hid hWs
  clear hel hh0 hb h h1 h2 h3 hWk P3 hWs hk hlen e2
  go_enter Try.func19, Try.ntmps19
  go_upto_region 4 with fail
  rw [← hW]
  clear hW b0 b1 b2 b3 bf o0 o1 o2 hl
  obtain ⟨us, hus⟩ : ∃ us, us = (Ps.take (k + 1)).flatMap PV.vals := ⟨_, rfl⟩
  have HU1 := Lib.hid (show ∀ u ∈ us, u.oneCell' = true from fun u hu => by
    rw [hus] at hu
    obtain ⟨x, _, hx⟩ := List.mem_flatMap.mp hu
    exact x.one u hx)
  have HUL := Lib.hid (show us.length = (k + 1) * 3 by rw [hus, flat_len PV.vals pvals_len, HLEN.out])
  have HUC := Lib.hid (show ∀ j u, us[j]? = some u → W.cell? ⟨g0, j, none⟩ = some u from fun j u hj => by
    obtain ⟨A9, c9, e9, _, _, _, hx9⟩ := own_open H3.out
    obtain ⟨g9, cur, e8, _, hh9, hcur⟩ := hx9 (by omega)
    injection e9 with e9 _ _
    rw [e8] at e9
    injection e9 with e9
    injection e9 with e9
    subst e9
    rw [cell_of_row W g0 j _ _ _ hh9, ← hj, hus]
    exact hcur j (by
      have : j < us.length := by
        rcases Nat.lt_or_ge j us.length with h | h
        · exact h
        · rw [List.getElem?_eq_none h] at hj; cases hj
      rw [HUL.out] at this
      exact this))
  have HUS := Lib.hid hus
  have hg0W : g0 < W.heap.size := by have := HWS.out; omega
  clear hus
  go_wp2_with (at_builtin; go_must (refine wpList_append_cells _ rfl _ _ _ rfl elState W.heap.size _ 0 [] rfl (ownsRow_empty _ _ _ _ (heap_alloc_new _ _)) (some ⟨g0, 0, none⟩) (k + 1) mc us rfl (fun h => by cases h) hk1 HUL.out ?_ HU1.out (by omega) (by unfold maxLen; omega) (by simp) ?_))
  · exact ⟨g0, 0, ⟨rfl, rfl⟩, fun j u hj => by
      rw [Nat.zero_add]
      exact ((belS (Below.refl W.heap.size W) (Obj.cells #[] 32)).cell (p := ⟨g0, j, none⟩) hg0W).trans (HUC.out j u hj)⟩
  intro v2 w2 hown2 hg2
  have B2 := Lib.hid (show Below W.heap.size W w2 from (belS (Below.refl W.heap.size W) (Obj.cells #[] 32)).grown hg2 (by simp) fun k hk => by simp [Value.ownBlock] at hk; omega)
  have Z := Lib.hid ((B2.out.block rb wl).trans HP3.out)
  obtain ⟨A9, c9, rfl, _, _, _, hx9⟩ := own_open hown2
  obtain ⟨g9, cur, rfl, _⟩ := hx9 (by omega)
  have z3 := cell_of_row w2 rb 3 _ _ _ Z.out
  have zl := heap_lt Z.out
  have zf := unfrozen Z.out
  have S := Lib.hid (RM.remark (Qs := Ps.take (k + 1)) (g := g9) (cap := c9) HGE.out Z.out (by rw [HLEN.out, ← HUS.out]; exact ownsRow_more hown2 hBW) (RW.out.trans (RF.below hBW B2.out)) rfl)
  clear hown2 hg2 hx9 c3
  go_wp2_with fail
  go_ret
  have h := S.out
  rw [HLEN.out] at h
  exact ⟨rfl, h⟩
end Go.Proofs.Ytgoedlbdnmhppaa
namespace Go.Proofs.Ytgoedlbdnmhppaa
open Go.RowKit

theorem TV.one (p : TV) : ∀ u ∈ p.vals, u.oneCell' = true := by
  intro u hu
  simp only [TV.vals, List.mem_cons, List.not_mem_nil, or_false] at hu
  rcases hu with rfl | rfl | rfl | rfl <;> rfl
/-- A row as the source of an append. -/
theorem row_src {w : World} {B : Nat} {e : TypeId} {s : Nat} {A : Option Addr} {m c : Nat} {us : List Value} (h : w.ownsRow B e s (.slice A m c) m us) :
    (A = none → c = 0) ∧ m ≤ c ∧ us.length = m * s ∧ (0 < m → ∃ b off, A = some ⟨b, off, none⟩ ∧ b < w.heap.size ∧ ∀ j u, us[j]? = some u → w.cell? ⟨b, off + j, none⟩ = some u) := by
  have hl := own_len h
  obtain ⟨A9, c9, e9, h1, h2, _, h3⟩ := own_open h
  injection e9 with e1 _ e3
  subst e1; subst e3
  refine ⟨h2, h1, hl, fun h0 => ?_⟩
  obtain ⟨g, cur, rfl, _, hh, hcur⟩ := h3 h0
  refine ⟨g, 0, rfl, heap_lt hh, fun j u hj => ?_⟩
  rw [Nat.zero_add, cell_of_row w g j _ _ _ hh, ← hj]
  exact hcur j (by
    have : j < us.length := by
      rcases Nat.lt_or_ge j us.length with h | h
      · exact h
      · rw [List.getElem?_eq_none h] at hj; cases hj
    omega)
theorem flat_one {ts : List TV} : ∀ u ∈ ts.flatMap TV.vals, u.oneCell' = true := fun u hu => by
  obtain ⟨x, _, hx⟩ := List.mem_flatMap.mp hu
  exact x.one u hx
theorem AT.set {w : World} {ts : List TV} {As : List T} (h : AT w ts As) {n : Nat} {v : TV} {a : T} (hv : TP w (fun _ => True) a (.agg #[.int .i64 v.k, .int .i64 v.n, .string v.s, .slice v.A v.m v.c])) (ha : a.aok) : AT w (ts.set n v) (As.set n a) := by
  refine ⟨by simp [h.len], fun i v' a' h1 h2 => ?_⟩
  rw [List.getElem?_set] at h1 h2
  by_cases e : n = i
  · subst e
    rw [if_pos rfl] at h1 h2
    split at h1
    · split at h2
      · injection h1 with h1; injection h2 with h2; subst h1; subst h2; exact ⟨hv, ha⟩
      · cases h2
    · cases h1
  · rw [if_neg e] at h1 h2
    exact h.tp i v' a' h1 h2
def RSetP (L : Bs) (As : List T) (w : World) (B rb : Nat) (Ps : List PV) (e : Ending) (w' : World) : Prop := e = .returned (.int .i64 0) ∧ ∃ p', RM w' B rb p' Ps ∧ PA w' p' L As ∧ RF B w w'
set_option maxRecDepth 100000 in
set_option maxHeartbeats 4000000 in
theorem rset9_out {w : World} {B rb : Nat} {p : PV} {Ps : List PV} (h : RM w B rb p Ps) {n : Int} (ho : n < 0 ∨ (p.n : Int) ≤ n) (a : TV) :
    Calls Try.prog 35 #[.pointer (some ⟨rb, 0, none⟩), .int .i64 n, .agg #[.int .i64 a.k, .int .i64 a.n, .string a.s, .slice a.A a.m a.c]] w fun e w' => e = .returned (.int .i64 1) ∧ Below w.heap.size w w' := by
  obtain ⟨MA, mc, x0, x1, x2, x3, _, hl, _, _⟩ := h.box
  obtain ⟨ak, an, as_, aA, am, ac⟩ := a
  clear h
  by_cases hn : n < 0
  · go_enter Try.func35, Try.ntmps35
    go_wp2_with fail
    go_ret
    exact ⟨rfl, (belS (Below.refl _ _) _)⟩
  · have hge : n ≥ (p.n : Int) := by omega
    clear ho
    go_enter Try.func35, Try.ntmps35
    go_wp2_with fail
    go_ret
    exact ⟨rfl, (belS (Below.refl _ _) _)⟩
set_option maxRecDepth 100000 in
set_option maxHeartbeats 4000000 in
theorem rset9_bound {w : World} {B rb : Nat} {p : PV} {Ps : List PV} {L : Bs} {As : List T} (h : RM w B rb p Ps) (hp : PA w p L As) {n : Int} (h0 : 0 ≤ n) (hn : n < (p.n : Int)) (hbd : (findB L n).isSome = true) (a : TV) :
    Calls Try.prog 35 #[.pointer (some ⟨rb, 0, none⟩), .int .i64 n, .agg #[.int .i64 a.k, .int .i64 a.n, .string a.s, .slice a.A a.m a.c]] w fun e w' => e = .returned (.int .i64 1) ∧ Below w.heap.size w w' := by
  obtain ⟨MA, mc, x0, x1, x2, x3, _, hl, _, _⟩ := h.box
  obtain ⟨ak, an, as_, aA, am, ac⟩ := a
  have hn0 : ¬ (n < 0) := by omega
  have hnge : ¬ (n ≥ (p.n : Int)) := by omega
  have BX := Lib.hid (belS (Below.refl w.heap.size w) (Obj.cells #[.int .i64 ak, .int .i64 an, .string as_, .slice aA am ac] 40))
  have CB := Lib.hid (rbound9_any (h.below BX.out) (hp.below BX.out) n)
  have HBD := Lib.hid hbd
  clear h hp hbd
  go_enter Try.func35, Try.ntmps35
  go_wp2_with fail
  refine CB.out.mono ?_
  rw [HBD.out]
  rintro e w5 ⟨rfl, h5⟩
  have H5 := Lib.hid (BX.out.trans (h5.mono BX.out.size))
  clear h5 CB
  go_wp2_with fail
  go_ret
  exact ⟨rfl, H5.out⟩
set_option maxRecDepth 100000 in
set_option maxHeartbeats 4000000 in
theorem rset9_in {w : World} {B rb : Nat} {p : PV} {Ps : List PV} {L : Bs} {As : List T} (h : RM w B rb p Ps) (hp : PA w p L As) (hA : As.length ≤ 1000000) {n : Nat} (hn : n < As.length) (hbd : (findB L (n : Int)).isSome = false) {a : T} {v : TV}
    (hv : TP w (fun _ => True) a (.agg #[.int .i64 v.k, .int .i64 v.n, .string v.s, .slice v.A v.m v.c])) (ha : a.aok) :
    Calls Try.prog 35 #[.pointer (some ⟨rb, 0, none⟩), .int .i64 (n : Int), .agg #[.int .i64 v.k, .int .i64 v.n, .string v.s, .slice v.A v.m v.c]] w fun e w' => RSetP L (As.set n a) w B rb Ps e w' := by
  obtain ⟨ak, an, as_, aA, am, ac⟩ := v
  obtain ⟨MA, mc, x0, x1, x2, x3, _, hl, _, _⟩ := h.box
  have hpn1 := Nat.le_of_eq hp.n
  have hpn2 := Nat.le_of_eq hp.n.symm
  have hpm1 := Nat.le_of_eq hp.am
  have hpm2 := Nat.le_of_eq hp.am.symm
  have hn0 : ¬ ((n : Int) < 0) := by omega
  have hnge : ¬ ((n : Int) ≥ (p.n : Int)) := by omega
  have BX := Lib.hid (belS (Below.refl w.heap.size w) (Obj.cells #[.int .i64 ak, .int .i64 an, .string as_, .slice aA am ac] 40))
  have CB := Lib.hid (rbound9_any (h.below BX.out) (hp.below BX.out) (n : Int))
  have X0 := Lib.hid (heap_alloc_new w (Obj.cells #[.int .i64 ak, .int .i64 an, .string as_, .slice aA am ac] 40))
  have HBD := Lib.hid hbd
  have H := Lib.hid h
  have HP := Lib.hid hp
  have HV := Lib.hid hv
  have hBw : B ≤ w.heap.size := by have := h.ge; omega
  clear h hp hbd hv
  go_enter Try.func35, Try.ntmps35
  go_wp2_with fail
  refine CB.out.mono ?_
  rw [HBD.out]
  rintro e w5 ⟨rfl, h5⟩
  have B5 := Lib.hid (BX.out.trans (h5.mono BX.out.size))
  have X5 := (h5.block _ (heap_lt X0.out)).trans X0.out
  have HX5 := Lib.hid X5
  have R5 := Lib.hid (H.out.below B5.out)
  have P5 := Lib.hid (HP.out.below B5.out)
  clear h5 CB X5 x0 x1 x2 x3 hl
  obtain ⟨MA', mc', x0, x1, x2, x3, _, hl, _, _⟩ := R5.out.box
  obtain ⟨ts, ho1, hat⟩ := P5.out.at_
  obtain ⟨s1, s2, s3, s4⟩ := row_src ho1
  have S4 := Lib.hid s4
  have AT5 := Lib.hid hat
  have S1 := Lib.hid s1
  have hlt1 := Nat.le_of_eq hat.len
  have hlt2 := Nat.le_of_eq hat.len.symm
  obtain ⟨us, hus⟩ : ∃ us, us = ts.flatMap TV.vals := ⟨_, rfl⟩
  have HUS := Lib.hid hus
  rw [← hus] at s3
  have HS3 := Lib.hid s3
  clear s4 hat s1 ho1 hus s3
  go_wp2_with (at_builtin; go_must (refine wpList_append_cells _ rfl _ _ _ rfl elTerm w5.heap.size _ 0 [] rfl (ownsRow_empty _ _ _ _ (heap_alloc_new _ _)) p.AA p.am p.ac us rfl S1.out s2 HS3.out ?_ (by rw [HUS.out]; exact flat_one) (by omega) (by unfold maxLen; omega) (by simp) ?_))
  · intro h0
    obtain ⟨b, off, hA, hb, hc⟩ := S4.out h0
    refine ⟨b, off, hA, fun j u hj => ?_⟩
    rw [HUS.out] at hj
    exact ((belS (Below.refl w5.heap.size w5) (Obj.cells #[] 40)).cell (p := ⟨b, off + j, none⟩) hb).trans (hc j u hj)
  intro v2 w2 hown2 hg2
  have B2 := Lib.hid (show Below w5.heap.size w5 w2 from (belS (Below.refl w5.heap.size w5) (Obj.cells #[] 40)).grown hg2 (by simp) fun k hk => by simp [Value.ownBlock] at hk; omega)
  obtain ⟨A9, c9, rfl, _, _, _, hx9⟩ := own_open hown2
  obtain ⟨g9, cur, rfl, hg9, hh9, _⟩ := hx9 (by omega)
  have R2 := Lib.hid (R5.out.below B2.out)
  have P2 := Lib.hid (P5.out.below B2.out)
  obtain ⟨MA2, mc2, b0, b1, b2, b3, bf, hbl, _, _⟩ := R2.out.box
  have XB := (B2.out.block _ (heap_lt HX5.out)).trans HX5.out
  obtain ⟨q0, q1, q2, q3⟩ := box4 XB
  have qlt := heap_lt XB
  obtain ⟨old, hold⟩ : ∃ old, ts[n]? = some old := ⟨_, List.getElem?_eq_getElem (by omega)⟩
  have hown3 : w2.ownsRow w5.heap.size 40 4 (.slice (some ⟨g9, 0, none⟩) p.am c9) p.am (ts.flatMap TV.vals) := by rw [← HUS.out]; exact hown2
  obtain ⟨g8, e8, _, _, _, hel⟩ := own_elem tvals_len hown3 hold (by omega)
  injection e8 with e8
  injection e8 with e8
  subst e8
  obtain ⟨ok, on, os, oA, om, oc⟩ := old
  have o0 := hel 0 _ rfl
  have o1 := hel 1 _ rfl
  have o2 := hel 2 _ rfl
  have o3 := hel 3 _ rfl
  simp only [Nat.add_zero] at o0
  have gf := unfrozen hh9
  have gl := heap_lt hh9
  have hni : (n : Int) < (p.am : Int) := by omega
  have hng : rb ≠ g9 := by have h1 := hl; have h2 := hg9; omega
  have hnb : w.heap.size ≠ g9 := by have h1 := B5.out.size; have h2 := hg9; have h3 := heap_lt HX5.out; omega
  have U := Lib.hid (setCells_own hown3 (o := n * 4) [.int .i64 ak, .int .i64 an, .string as_, .slice aA am ac] (by
    have : (n + 1) * 4 ≤ p.am * 4 := Nat.mul_le_mul_right _ (by omega)
    simp; omega))
  have HH9 := Lib.hid hh9
  have HG9 := Lib.hid hg9
  clear hown2 hown3 hg2 hx9 x0 x1 x2 x3 hel hold XB hh9 hg9
  obtain ⟨W, hW⟩ : ∃ W, W = w2.setCells g9 (n * 4) [.int .i64 ak, .int .i64 an, .string as_, .slice aA am ac] := ⟨_, rfl⟩
  have BW := Lib.hid (show Below w5.heap.size w5 W by rw [hW]; exact setCells_low HG9.out _ _ _ B2.out)
  have R3 := Lib.hid (R5.out.below BW.out)
  obtain ⟨MA3, mc3, d0, d1, d2, d3, df, dl, _, _⟩ := R3.out.box
  have WR := Lib.hid (R3.out.write 2 (.slice (some ⟨g9, 0, none⟩) p.am c9) ⟨p.n, p.LA, p.ln, p.lc, some ⟨g9, 0, none⟩, p.am, c9⟩ (fun m => rfl))
  have P3 := Lib.hid ((P5.out.below BW.out).rf WR.out.2)
  have hW' : (((w2.setCell ⟨g9, n * 4, none⟩ (.int .i64 ak)).setCell ⟨g9, n * 4 + 1, none⟩ (.int .i64 an)).setCell ⟨g9, n * 4 + 2, none⟩ (.string as_)).setCell ⟨g9, n * 4 + 3, none⟩ (.slice aA am ac) = W := hW.symm
  have HWW := Lib.hid hW
  clear hW
  go_upto_region 6 with fail
  try rw [hW']
  clear hW'
  have V9 := Lib.hid ((HV.out.below (B5.out.trans (BW.out.mono B5.out.size))).rf WR.out.2)
  have ROW := Lib.hid (show (W.setCell ⟨rb, 2, none⟩ (.slice (some ⟨g9, 0, none⟩) p.am c9)).ownsRow 0 40 4 (.slice (some ⟨g9, 0, none⟩) p.am c9) p.am ((ts.set n ⟨ak, an, as_, aA, am, ac⟩).flatMap TV.vals) from by
    have h1 := ownsRow_more U.out (Nat.zero_le _)
    rw [← HWW.out] at h1
    rw [flat_set TV.vals tvals_len ts n _ (by omega)]
    exact own_keep h1 fun g hg => Below.heap_setCell _ _ _ g (by cases hg; exact fun e => hng e.symm))
  have A9 := Lib.hid (show AT (W.setCell ⟨rb, 2, none⟩ (.slice (some ⟨g9, 0, none⟩) p.am c9)) (ts.set n ⟨ak, an, as_, aA, am, ac⟩) (As.set n a) from ((AT5.out.keep fun ht => ht.below BW.out).rf WR.out.2).set V9.out ha)
  go_wp2_with fail
  go_ret
  refine ⟨rfl, _, WR.out.1, ⟨by rw [List.length_set]; exact P3.out.n, P3.out.ln, by rw [List.length_set]; exact P3.out.am, P3.out.bl, P3.out.ok, _, ROW.out, A9.out⟩, (RF.below hBw (B5.out.trans (BW.out.mono B5.out.size))).trans WR.out.2⟩
end Go.Proofs.Ytgoedlbdnmhppaa
namespace Go.Proofs.Ytgoedlbdnmhppaa
open Go.RowKit

theorem zeros_terms (k : Nat) : (Builtin.zeroCells (Value.agg #[.int .i64 0, .int .i64 0, .string ⟨#[]⟩, .slice none 0 0]).cells k).toList = (List.replicate k TV.zero).flatMap TV.vals := by
  rw [zeroCells_list, List.flatMap_def, List.map_replicate]
  rfl
theorem zeros_terms_one (k : Nat) : ∀ u ∈ (Builtin.zeroCells (Value.agg #[.int .i64 0, .int .i64 0, .string ⟨#[]⟩, .slice none 0 0]).cells k).toList, u.oneCell' = true := by
  intro u hu
  rw [zeros_terms] at hu
  exact flat_one u hu
theorem AT.zeros {w : World} {ts : List TV} {As : List T} (h : AT w ts As) (k : Nat) : AT w (ts ++ List.replicate k TV.zero) (As ++ List.replicate k noneT) := by
  refine ⟨by simp [h.len], fun i v a h1 h2 => ?_⟩
  by_cases hi : i < ts.length
  · rw [List.getElem?_append_left hi] at h1
    rw [List.getElem?_append_left (by rw [← h.len]; exact hi)] at h2
    exact h.tp i v a h1 h2
  · rw [List.getElem?_append_right (by omega), List.getElem?_replicate] at h1
    rw [List.getElem?_append_right (by rw [← h.len]; omega), List.getElem?_replicate] at h2
    split at h1
    · split at h2
      · injection h1 with h1; injection h2 with h2; subst h1; subst h2
        exact ⟨TP.leaf0 _ _ _ _ _ _, .inr rfl⟩
      · cases h2
    · cases h1
def RFreshP (L : Bs) (As As' : List T) (w : World) (B rb : Nat) (Ps : List PV) (e : Ending) (w' : World) : Prop := e = .returned (.int .i64 (As.length : Int)) ∧ ∃ p', RM w' B rb p' Ps ∧ PA w' p' L As' ∧ RF B w w'
set_option maxRecDepth 100000 in
set_option maxHeartbeats 4000000 in
theorem rfresh9_any {w : World} {B rb : Nat} {p : PV} {Ps : List PV} {L : Bs} {As : List T} (h : RM w B rb p Ps) (hp : PA w p L As) (hA : As.length ≤ 1000000) (n : Int) :
    Calls Try.prog 13 #[.pointer (some ⟨rb, 0, none⟩), .int .i64 n] w fun e w' => RFreshP L As (As ++ List.replicate (fresh n) noneT) w B rb Ps e w' := by
  obtain ⟨MA, mc, x0, x1, x2, x3, _, hl, _, _⟩ := h.box
  have hpn1 := Nat.le_of_eq hp.n
  have hpn2 := Nat.le_of_eq hp.n.symm
  have hpm1 := Nat.le_of_eq hp.am
  have hpm2 := Nat.le_of_eq hp.am.symm
  have hBw : B ≤ w.heap.size := by have := h.ge; omega
  have R5 := Lib.hid h
  have P5 := Lib.hid hp
  obtain ⟨ts, ho1, hat⟩ := hp.at_
  obtain ⟨s1, s2, s3, s4⟩ := row_src ho1
  have S4 := Lib.hid s4
  have AT5 := Lib.hid hat
  have S1 := Lib.hid s1
  have hlt1 := Nat.le_of_eq hat.len
  have hlt2 := Nat.le_of_eq hat.len.symm
  obtain ⟨us, hus⟩ : ∃ us, us = ts.flatMap TV.vals := ⟨_, rfl⟩
  have HUS := Lib.hid hus
  rw [← hus] at s3
  have HS3 := Lib.hid s3
  obtain ⟨k, hk⟩ : ∃ k, fresh n = k := ⟨_, rfl⟩
  have hkle : k ≤ 1000 := by rw [← hk]; exact fresh_le n
  rw [hk]
  have HK := Lib.hid hk
  clear s4 hat s1 ho1 hus s3 h hp hk
  go_enter Try.func13, Try.ntmps13
  go_upto_region 2 with fail
  go_cut [1] (fun s wx => s = .int .i64 (k : Int) ∧ w = wx)
  case first =>
    go_wp2_with fail
    all_goals
      go_meet
    all_goals exact ⟨congrArg (Value.int IntKind.i64) (by have := HK.out; unfold fresh at this; omega), rfl⟩
  case rest =>
  obtain ⟨rfl, rfl⟩ := hcut
  go_wp2_with (at_builtin; go_must (refine wpList_append_cells _ rfl _ _ _ rfl elTerm w.heap.size _ 0 [] rfl (ownsRow_empty _ _ _ _ (heap_alloc_new _ _)) p.AA p.am p.ac us rfl S1.out s2 HS3.out ?_ (by rw [HUS.out]; exact flat_one) (by omega) (by unfold maxLen; omega) (by simp) ?_))
  · intro h0
    obtain ⟨b, off, hA, hb, hc⟩ := S4.out h0
    refine ⟨b, off, hA, fun j u hj => ?_⟩
    rw [HUS.out] at hj
    exact ((belS (Below.refl w.heap.size w) (Obj.cells #[] 40)).cell (p := ⟨b, off + j, none⟩) hb).trans (hc j u hj)
  intro v2 w2 hown2 hg2
  have B2 := Lib.hid (show Below w.heap.size w w2 from (belS (Below.refl w.heap.size w) (Obj.cells #[] 40)).grown hg2 (by simp) fun k hk => by simp [Value.ownBlock] at hk; omega)
  have hown3 : w2.ownsRow w.heap.size 40 4 v2 p.am us := hown2
  obtain ⟨v3, w3, hrun, hown4, hg4⟩ := run_append_own_zeros (P := Try.prog) w2 (ty := 30) (kq := .i64) elTerm Try.underlying3 zeros_terms_one hown3 k (by unfold maxLen; omega) (by omega) B2.out.size
  rw [zeros_terms] at hown4
  have B3 := Lib.hid (show Below w.heap.size w w3 from B2.out.grown hg4 B2.out.size fun q hq => (hown3.lt q hq).1)
  have hown5 : w3.ownsRow w.heap.size 40 4 v3 (p.am + k) ((ts ++ List.replicate k TV.zero).flatMap TV.vals) := by
    rw [List.flatMap_append, ← HUS.out]
    exact hown4
  obtain ⟨A9, c9, rfl, _, _, _, hx9⟩ := own_open hown5
  have R3 := Lib.hid (R5.out.below B3.out)
  obtain ⟨MA3, mc3, d0, d1, d2, d3, df, dl, _, _⟩ := R3.out.box
  have W1 := Lib.hid (R3.out.write 2 (.slice A9 (p.am + k) c9) ⟨p.n, p.LA, p.ln, p.lc, A9, p.am + k, c9⟩ (fun m => rfl))
  have W2 := Lib.hid (W1.out.1.write 0 (.int .i64 ((p.n + k : Nat) : Int)) ⟨p.n + k, p.LA, p.ln, p.lc, A9, p.am + k, c9⟩ (fun m => rfl))
  have RF3 := Lib.hid (W1.out.2.trans W2.out.2)
  have P3 := Lib.hid ((P5.out.below B3.out).rf RF3.out)
  have ROW := Lib.hid (show ((w3.setCell ⟨rb, 2, none⟩ (.slice A9 (p.am + k) c9)).setCell ⟨rb, 0, none⟩ (.int .i64 ((p.n + k : Nat) : Int))).ownsRow 0 40 4 (.slice A9 (p.am + k) c9) (p.am + k) ((ts ++ List.replicate k TV.zero).flatMap TV.vals) from
    own_keep (ownsRow_more hown5 (Nat.zero_le _)) fun g hg => by
      obtain ⟨cs, f, hh⟩ := Go.Lib.ownsRow_kind hown5 g hg
      exact (RF3.out.far g _ hh (notRf_of (by decide))).trans hh.symm)
  have A9' := Lib.hid (((AT5.out.keep fun ht => ht.below B3.out).rf RF3.out).zeros k)
  have FIN := Lib.hid (show ∀ W, W = (w3.setCell ⟨rb, 2, none⟩ (.slice A9 (p.am + k) c9)).setCell ⟨rb, 0, none⟩ (.int .i64 ((p.n + k : Nat) : Int)) → ∀ z : Int, z = (As.length : Int) → RFreshP L As (As ++ List.replicate k noneT) w B rb Ps (.returned (.int .i64 z)) W from fun W hW z hz => by
    subst hW; subst hz
    exact ⟨rfl, _, W2.out.1, ⟨by have := P5.out.n; simp; omega, P3.out.ln, by have := P5.out.am; simp; omega, P3.out.bl, P3.out.ok, _, ROW.out, A9'.out⟩, (RF.below hBw B3.out).trans RF3.out⟩)
  clear hown2 hown3 hg2 hown4 hown5 hg4 hx9
  obtain ⟨MA2, mc2, e0, e1, e2, e3, ef, el, _, _⟩ := (R5.out.below B2.out).box
  go_wp2_with (at_builtin; refine Lib.wpList_append_run _ rfl _ _ _ _ rfl _ _ rfl rfl _ _ hrun ?_)
  go_ret
  exact FIN.out _ (by simp) _ (by have := P5.out.n; omega)
end Go.Proofs.Ytgoedlbdnmhppaa
namespace Go.Proofs.Ytgoedlbdnmhppaa
open Go.RowKit

theorem backC_take (C : List CV) (R : List (CV × Nat)) (v : Nat) : (backC C R).take v = backC (C.take v) R := by
  induction R with
  | nil => rfl
  | cons e R ih =>
    show ((backC C R).set e.2 e.1).take v = (backC (C.take v) R).set e.2 e.1
    rw [List.take_set, ih]
/-- What is remembered at a mark. -/
structure MK where
  r : Nat
  v : Nat
  q : PV
  C : List CV
  L : Bs
  A : List T
def MK.m (h : MK) : Nat × Nat := (h.r, h.v)
structure Hp (C : List CV) (R : List (CV × Nat)) (h : MK) : Prop where
  r : h.r ≤ R.length
  v : h.v ≤ C.length
  len : h.v = h.C.length
  back : backC (C.take h.v) (R.drop h.r) = h.C
  tr : ∀ e ∈ R.take h.r, e.2 < h.v
theorem Hp.new (C : List CV) (R : List (CV × Nat)) (q : PV) (L : Bs) (A : List T) (ht : ∀ e ∈ R, e.2 < C.length) : Hp C R ⟨R.length, C.length, q, C, L, A⟩ :=
  ⟨Nat.le_refl _, Nat.le_refl _, rfl, by simp [backC], fun e he => ht e (List.mem_of_mem_take he)⟩
theorem Hp.fresh {C : List CV} {R : List (CV × Nat)} {h : MK} (hp : Hp C R h) (Z : List CV) : Hp (C ++ Z) R h :=
  ⟨hp.r, by have := hp.v; simp; omega, hp.len, by rw [List.take_append_of_le_length hp.v]; exact hp.back, hp.tr⟩
theorem Hp.grow {C C' : List CV} {R R2 : List (CV × Nat)} {h : MK} (hp : Hp C R h) (hb : backC C' R2 = C) (hl : C'.length = C.length) : Hp C' (R ++ R2) h := by
  refine ⟨by have := hp.r; simp; omega, by have := hp.v; omega, hp.len, ?_, fun e he => hp.tr e ?_⟩
  · rw [List.drop_append_of_le_length hp.r, backC_append, ← backC_take, hb]
    exact hp.back
  · rwa [List.take_append_of_le_length hp.r] at he
theorem Hp.undo {C : List CV} {R : List (CV × Nat)} {h h0 : MK} (hp : Hp C R h) (h0p : Hp C R h0) (hr : h.r ≤ h0.r) (hv : h.v ≤ h0.v) : Hp h0.C (R.take h0.r) h := by
  have hr0 := h0p.r
  refine ⟨by simp; omega, by have := h0p.len; omega, hp.len, ?_, fun e he => ?_⟩
  · rw [← h0p.back, backC_take, List.take_take, Nat.min_eq_left hv, ← backC_append]
    have : (R.take h0.r).drop h.r ++ R.drop h0.r = R.drop h.r := by
      conv => rhs; rw [← List.take_append_drop h0.r R]
      rw [List.drop_append_of_le_length (by simp; omega)]
    rw [this]
    exact hp.back
  · rw [List.take_take, Nat.min_eq_left hr] at he
    exact hp.tr e he
/-- What a mark's memory is in the world. -/
structure Hw (w : World) (h : MK) : Prop where
  cl : CL w h.C h.L
  at_ : AT w (h.C.map CV.attr) h.A
  pa : PA w h.q h.L h.A
/-- Where a law stands: w0 is the world at its start. -/
structure LS (B : Nat) (w : World) (sb rb : Nat) (C : List CV) (R : List (CV × Nat)) (p : PV) (L : Bs) (As : List T) (Hs : List MK) : Prop where
  sm : SM w B sb C R (Hs.map MK.m)
  rm : RM w B rb p (Hs.map MK.q)
  pa : PA w p L As
  cl : CL w C L
  at_ : AT w (C.map CV.attr) As
  tr : ∀ e ∈ R, e.2 < C.length
  hp : ∀ (k : Nat) (h : MK), Hs[k]? = some h → Hp C R h
  hw : ∀ (k : Nat) (h : MK), Hs[k]? = some h → Hw w h
  mono : ∀ (j k : Nat) (h h' : MK), j ≤ k → Hs[j]? = some h → Hs[k]? = some h' → h.r ≤ h'.r ∧ h.v ≤ h'.v
theorem Hw.keep {w w' : World} {h : MK} (hw : Hw w h) (hk : ∀ {t : T} {v : Value}, TP w (fun _ => True) t v → TP w' (fun _ => True) t v) (hpa : PA w h.q h.L h.A → PA w' h.q h.L h.A) : Hw w' h := ⟨hw.cl.keep hk, hw.at_.keep hk, hpa hw.pa⟩
theorem Hw.below {w w' : World} {h : MK} (hw : Hw w h) (hb : Below w.heap.size w w') : Hw w' h := hw.keep (fun ht => ht.below hb) fun hp => hp.below hb
theorem Hw.sf {B : Nat} {w w' : World} {h : MK} (hw : Hw w h) (hb : SF B w w') : Hw w' h := hw.keep (fun ht => ht.sf hb) fun hp => hp.sf hb
theorem Hw.rf {B : Nat} {w w' : World} {h : MK} (hw : Hw w h) (hb : RF B w w') : Hw w' h := hw.keep (fun ht => ht.rf hb) fun hp => hp.rf hb
theorem LS.below {B : Nat} {w w' : World} {sb rb : Nat} {C : List CV} {R : List (CV × Nat)} {p : PV} {L : Bs} {As : List T} {Hs : List MK} (h : LS B w sb rb C R p L As Hs) (hb : Below w.heap.size w w') : LS B w' sb rb C R p L As Hs :=
  ⟨h.sm.below hb, h.rm.below hb, h.pa.below hb, h.cl.below hb, h.at_.keep fun ht => ht.below hb, h.tr, h.hp, fun k g hg => (h.hw k g hg).below hb, h.mono⟩
theorem LS.len {B : Nat} {w : World} {sb rb : Nat} {C : List CV} {R : List (CV × Nat)} {p : PV} {L : Bs} {As : List T} {Hs : List MK} (h : LS B w sb rb C R p L As Hs) : C.length = As.length ∧ p.n = C.length := by
  have h1 := h.at_.len
  have h2 := h.pa.n
  simp at h1
  exact ⟨h1, by omega⟩
theorem LS.size {B : Nat} {w : World} {sb rb : Nat} {C : List CV} {R : List (CV × Nat)} {p : PV} {L : Bs} {As : List T} {Hs : List MK} (h : LS B w sb rb C R p L As Hs) : B ≤ w.heap.size ∧ sb < w.heap.size ∧ rb < w.heap.size := by
  obtain ⟨_, _, _, hl⟩ := h.sm.lenAt
  obtain ⟨_, _, _, _, _, _, _, hl2, _, _⟩ := h.rm.box
  have := h.sm.ge
  exact ⟨by omega, hl, hl2⟩
/-! Both calls of one kind, one behind the other. -/
theorem LS.fresh {B : Nat} {w w1 w2 : World} {sb rb : Nat} {C : List CV} {R : List (CV × Nat)} {p p' : PV} {L : Bs} {As : List T} {Hs : List MK} (h : LS B w sb rb C R p L As Hs) (k : Nat)
    (h1 : SM w1 B sb (C ++ List.replicate k CV.zero) R (Hs.map MK.m)) (f1 : SF B w w1) (h2 : RM w2 B rb p' (Hs.map MK.q)) (hp2 : PA w2 p' L (As ++ List.replicate k noneT)) (f2 : RF B w1 w2) :
    LS B w2 sb rb (C ++ List.replicate k CV.zero) R p' L (As ++ List.replicate k noneT) Hs := by
  refine ⟨h1.rf f2, h2, hp2, ?_, ?_, fun e he => by have := h.tr e he; simp; omega, fun j g hg => (h.hp j g hg).fresh _, fun j g hg => ((h.hw j g hg).sf f1).rf f2, h.mono⟩
  · have hc := (h.cl.sf f1).rf f2
    refine ⟨hc.ok, fun q hq => by have := hc.inn q hq; simp; omega, fun q hq v hv => by have := hc.kn q hq v hv; simp; omega, fun i c hi => ?_⟩
    by_cases hlt : i < C.length
    · rw [List.getElem?_append_left hlt] at hi
      exact hc.cell i c hi
    · rw [List.getElem?_append_right (by omega), List.getElem?_replicate] at hi
      split at hi
      · injection hi with hi
        subst hi
        have hn : findB L (i : Int) = none := hc.far (by omega)
        exact ⟨fun _ => rfl, fun t ht => by rw [hn] at ht; cases ht⟩
      · cases hi
  · have := ((h.at_.sf f1).rf f2).zeros k
    rw [List.map_append, List.map_replicate]
    exact this
theorem LS.mark {B : Nat} {w w1 w2 : World} {sb rb : Nat} {C : List CV} {R : List (CV × Nat)} {p : PV} {L : Bs} {As : List T} {Hs : List MK} (h : LS B w sb rb C R p L As Hs)
    (h1 : SM w1 B sb C R (Hs.map MK.m ++ [(R.length, C.length)])) (f1 : SF B w w1) (h2 : RM w2 B rb p (Hs.map MK.q ++ [p])) (f2 : RF B w1 w2) :
    LS B w2 sb rb C R p L As (Hs ++ [⟨R.length, C.length, p, C, L, As⟩]) := by
  have hcl := (h.cl.sf f1).rf f2
  have hat := (h.at_.sf f1).rf f2
  have hpa := (h.pa.sf f1).rf f2
  have hnew := Hp.new C R p L As h.tr
  have key : ∀ (k : Nat) (g : MK), (Hs ++ [⟨R.length, C.length, p, C, L, As⟩])[k]? = some g → Hs[k]? = some g ∨ (k = Hs.length ∧ g = ⟨R.length, C.length, p, C, L, As⟩) := fun k g hg => by
    by_cases hlt : k < Hs.length
    · rw [List.getElem?_append_left hlt] at hg; exact .inl hg
    · rw [List.getElem?_append_right (by omega)] at hg
      have h0 : k = Hs.length := by
        rcases Nat.eq_zero_or_pos (k - Hs.length) with h | h
        · omega
        · rw [List.getElem?_eq_none (by simp; omega)] at hg; cases hg
      subst h0
      simp at hg
      exact .inr ⟨rfl, hg.symm⟩
  refine ⟨by rw [List.map_append]; exact h1.rf f2, by rw [List.map_append]; exact h2, hpa, hcl, hat, h.tr, fun k g hg => ?_, fun k g hg => ?_, fun j k g g' hjk hj hk => ?_⟩
  · rcases key k g hg with h0 | ⟨_, rfl⟩
    · exact h.hp k g h0
    · exact hnew
  · rcases key k g hg with h0 | ⟨_, rfl⟩
    · exact ((h.hw k g h0).sf f1).rf f2
    · exact ⟨hcl, hat, hpa⟩
  · rcases key k g' hk with h0 | ⟨e0, rfl⟩
    · rcases key j g hj with h3 | ⟨e3, rfl⟩
      · exact h.mono j k g g' hjk h3 h0
      · have := lt_of_at h0; omega
    · rcases key j g hj with h3 | ⟨e3, rfl⟩
      · exact ⟨(h.hp j g h3).r, (h.hp j g h3).v⟩
      · exact ⟨Nat.le_refl _, Nat.le_refl _⟩
theorem LS.undo {B : Nat} {w w1 w2 : World} {sb rb k : Nat} {C : List CV} {R : List (CV × Nat)} {p : PV} {L : Bs} {As : List T} {Hs : List MK} {g : MK} (h : LS B w sb rb C R p L As Hs) (hk : Hs[k]? = some g)
    (h1 : SM w1 B sb ((backC C (R.drop g.r)).take g.v) (R.take g.r) ((Hs.map MK.m).take (k + 1))) (f1 : SF B w w1) (h2 : RM w2 B rb g.q ((Hs.map MK.q).take (k + 1))) (f2 : RF B w1 w2) :
    LS B w2 sb rb g.C (R.take g.r) g.q g.L g.A (Hs.take (k + 1)) := by
  have hg := h.hp k g hk
  have hgw := ((h.hw k g hk).sf f1).rf f2
  rw [backC_take, hg.back] at h1
  have hlt := lt_of_at hk
  have key : ∀ (j : Nat) (x : MK), (Hs.take (k + 1))[j]? = some x → Hs[j]? = some x ∧ j ≤ k := fun j x hx => by
    rw [List.getElem?_take] at hx
    split at hx
    · exact ⟨hx, by omega⟩
    · cases hx
  refine ⟨by rw [List.map_take]; exact h1.rf f2, by rw [List.map_take]; exact h2, hgw.pa, hgw.cl, hgw.at_, fun e he => by have := hg.tr e he; have := hg.len; omega, fun j x hx => ?_, fun j x hx => ?_, fun i j x x' hij hi hj => ?_⟩
  · obtain ⟨hx, hjk⟩ := key j x hx
    obtain ⟨h3, h4⟩ := h.mono j k x g hjk hx hk
    exact (h.hp j x hx).undo hg h3 h4
  · exact ((h.hw j x (key j x hx).1).sf f1).rf f2
  · exact h.mono i j x x' hij (key i x hi).1 (key j x' hj).1
theorem CL.setAttr {w : World} {C : List CV} {L : Bs} (h : CL w C L) {n : Nat} {c : CV} (hc : C[n]? = some c) (hb : c.b = false) (a : TV) : CL w (C.set n ⟨false, c.to, a⟩) L := by
  refine ⟨h.ok, fun q hq => by rw [List.length_set]; exact h.inn q hq, fun q hq v hv => by rw [List.length_set]; exact h.kn q hq v hv, fun i c' hi => ?_⟩
  rw [List.getElem?_set] at hi
  by_cases e : n = i
  · subst e
    rw [if_pos rfl] at hi
    split at hi
    · injection hi with hi
      subst hi
      have := h.bound hc
      rw [hb] at this
      cases hf : findB L (n : Int) with
      | none => exact ⟨fun _ => rfl, fun t ht => by cases ht⟩
      | some t => rw [hf] at this; cases this
    · cases hi
  · rw [if_neg e] at hi
    exact h.cell i c' hi
theorem LS.set {B : Nat} {w w1 w2 : World} {sb rb n : Nat} {C : List CV} {R : List (CV × Nat)} {p p' : PV} {L : Bs} {As : List T} {Hs : List MK} {c : CV} {a : T} {v : TV} (h : LS B w sb rb C R p L As Hs) (hc : C[n]? = some c) (hb : c.b = false)
    (hv : TP w (fun _ => True) a (.agg #[.int .i64 v.k, .int .i64 v.n, .string v.s, .slice v.A v.m v.c])) (ha : a.aok)
    (h1 : SM w1 B sb (C.set n ⟨false, c.to, v⟩) (R ++ [(c, n)]) (Hs.map MK.m)) (f1 : SF B w w1) (h2 : RM w2 B rb p' (Hs.map MK.q)) (hp2 : PA w2 p' L (As.set n a)) (f2 : RF B w1 w2) :
    LS B w2 sb rb (C.set n ⟨false, c.to, v⟩) (R ++ [(c, n)]) p' L (As.set n a) Hs := by
  have hn := lt_of_at hc
  have hback : backC (C.set n ⟨false, c.to, v⟩) [(c, n)] = C := by
    show (C.set n _).set n c = C
    rw [List.set_set]
    apply List.ext_getElem?
    intro j
    rw [List.getElem?_set]
    by_cases e : n = j
    · subst e; rw [if_pos rfl, if_pos hn]; exact hc.symm
    · simp [e]
  refine ⟨h1.rf f2, h2, hp2, ((h.cl.sf f1).rf f2).setAttr hc hb v, ?_, fun e he => ?_, fun k g hg => (h.hp k g hg).grow hback (by simp), fun k g hg => ((h.hw k g hg).sf f1).rf f2, h.mono⟩
  · rw [List.map_set]
    exact ((h.at_.sf f1).rf f2).set ((hv.sf f1).rf f2) ha
  · rw [List.length_set]
    rcases List.mem_append.mp he with he | he
    · exact h.tr e he
    · simp at he; subst he; exact hn
theorem LS.unify {B : Nat} {w w1 w2 : World} {sb rb : Nat} {C C' : List CV} {R R' : List (CV × Nat)} {p p' : PV} {L L' Ns : Bs} {As : List T} {Hs : List MK} (h : LS B w sb rb C R p L As Hs) (hg : Grew C C' R R' Ns)
    (h1 : SM w1 B sb C' R' (Hs.map MK.m)) (hc : CL w1 C' L') (f1 : SF B w w1) (h2 : RM w2 B rb p' (Hs.map MK.q)) (hp2 : PA w2 p' L' As) (f2 : RF B w1 w2) :
    LS B w2 sb rb C' R' p' L' As Hs := by
  obtain ⟨R2, rfl, hb, _, hi⟩ := hg.ex
  have hmap : C'.map CV.attr = C.map CV.attr := by
    apply List.ext_getElem?
    intro j
    rw [List.getElem?_map, List.getElem?_map]
    cases hj : C'[j]? with
    | none =>
      have : C.length ≤ j := by
        rcases Nat.lt_or_ge j C.length with h | h
        · have := hg.len; rw [List.getElem?_eq_getElem (by omega)] at hj; cases hj
        · exact h
      rw [List.getElem?_eq_none this]
    | some c' =>
      obtain ⟨c, h3, h4⟩ := hg.at_ j c' hj
      rw [h3]
      simp [h4]
  refine ⟨h1.rf f2, h2, hp2, hc.rf f2, by rw [hmap]; exact (h.at_.sf f1).rf f2, fun e he => ?_, fun k g hk => (h.hp k g hk).grow hb hg.len, fun k g hk => ((h.hw k g hk).sf f1).rf f2, h.mono⟩
  rw [hg.len]
  rcases List.mem_append.mp he with he | he
  · exact h.tr e he
  · exact hi e he
/-- Where neither has changed, but for new memory. -/
theorem LS.still {B : Nat} {w w1 w2 : World} {sb rb : Nat} {C : List CV} {R : List (CV × Nat)} {p p' : PV} {L : Bs} {As : List T} {Hs : List MK} (h : LS B w sb rb C R p L As Hs)
    (h1 : SM w1 B sb C R (Hs.map MK.m)) (f1 : SF B w w1) (h2 : RM w2 B rb p' (Hs.map MK.q)) (hp2 : PA w2 p' L As) (f2 : RF B w1 w2) : LS B w2 sb rb C R p' L As Hs :=
  ⟨h1.rf f2, h2, hp2, (h.cl.sf f1).rf f2, (h.at_.sf f1).rf f2, h.tr, h.hp, fun k g hg => ((h.hw k g hg).sf f1).rf f2, h.mono⟩
theorem LS.start {w1 w2 : World} {sb rb : Nat} {B : Nat} (h1 : SM w1 B sb [] [] []) (h2 : RM w2 B rb PV.zero []) (f2 : RF B w1 w2) : LS B w2 sb rb [] [] PV.zero [] [] [] :=
  ⟨h1.rf f2, h2, PA.zero _, ⟨EnvOk.nil, fun p hp => (by cases hp), fun p hp => (by cases hp), fun i c hc => by simp at hc⟩, ⟨rfl, fun i v a h => by simp at h⟩, (fun e he => by cases he), (fun k h hk => by simp at hk), (fun k h hk => by simp at hk), (fun j k h h' _ hj => by simp at hj)⟩
end Go.Proofs.Ytgoedlbdnmhppaa
namespace Go.Proofs.Ytgoedlbdnmhppaa
open Go.RowKit

section
variable {B : Nat} {wr w1 : World} {sb rb : Nat} {C : List CV} {R : List (CV × Nat)} {p : PV} {L : Bs} {As : List T} {Hs : List MK}
/-- What comes behind the program's call, and ahead of the reference's. -/
def Mid (B : Nat) (wr : World) (sb : Nat) (C : List CV) (R : List (CV × Nat)) (Ms : List (Nat × Nat)) (v : Value) (e : Ending) (w' : World) : Prop := e = .returned v ∧ SM w' B sb C R Ms ∧ SF B wr w'
/-- What comes behind both. -/
def Both (B : Nat) (wr : World) (sb rb : Nat) (C : List CV) (R : List (CV × Nat)) (L : Bs) (As : List T) (H' : PV → List MK) (v : Value) (e : Ending) (w' : World) : Prop := e = .returned v ∧ ∃ p', LS B w' sb rb C R p' L As (H' p') ∧ Below B wr w'
theorem pmark1 (F : LS B wr sb rb C R p L As Hs) (hM : Hs.length ≤ 1000000) (W : World) (hW : Below wr.heap.size wr W) :
    Calls Try.prog 10 #[.pointer (some ⟨sb, 0, none⟩)] W fun e w' => Mid B wr sb C R (Hs.map MK.m ++ [(R.length, C.length)]) (.int .i64 (Hs.length : Int)) e w' :=
  (smark_any (F.below hW).sm (by simpa using hM)).mono fun _ _ ⟨h1, h2, h3⟩ => ⟨by rw [h1]; simp, h2, (SF.below F.size.1 hW).trans h3⟩
theorem pmark2 (F : LS B wr sb rb C R p L As Hs) (hM : Hs.length ≤ 1000000) (h1 : SM w1 B sb C R (Hs.map MK.m ++ [(R.length, C.length)])) (f1 : SF B wr w1) (W : World) (hW : Below w1.heap.size w1 W) :
    Calls Try.prog 11 #[.pointer (some ⟨rb, 0, none⟩)] W fun e w' => Both B wr sb rb C R L As (fun _ => Hs ++ [⟨R.length, C.length, p, C, L, As⟩]) (.int .i64 (Hs.length : Int)) e w' := by
  have hs := h1.lenAt
  have f2 := f1.then F.size.1 hW
  refine (rmark9_any (F.rm.sf f2) (by simpa using hM)).mono fun _ _ ⟨g1, g2, g3⟩ => ⟨by rw [g1]; simp, p, F.mark (h1.below hW) f2 g2 g3, f2.low.trans g3.low⟩
theorem pfresh1 (F : LS B wr sb rb C R p L As Hs) (hC : C.length ≤ 1000000) (n : Int) (W : World) (hW : Below wr.heap.size wr W) :
    Calls Try.prog 12 #[.pointer (some ⟨sb, 0, none⟩), .int .i64 n] W fun e w' => Mid B wr sb (C ++ List.replicate (fresh n) CV.zero) R (Hs.map MK.m) (.int .i64 (C.length : Int)) e w' :=
  (sfresh_any (F.below hW).sm hC n).mono fun _ _ ⟨h1, h2, h3⟩ => ⟨h1, h2, (SF.below F.size.1 hW).trans h3⟩
theorem pfresh2 (F : LS B wr sb rb C R p L As Hs) (hC : C.length ≤ 1000000) (n : Int) (h1 : SM w1 B sb (C ++ List.replicate (fresh n) CV.zero) R (Hs.map MK.m)) (f1 : SF B wr w1) (W : World) (hW : Below w1.heap.size w1 W) :
    Calls Try.prog 13 #[.pointer (some ⟨rb, 0, none⟩), .int .i64 n] W fun e w' => Both B wr sb rb (C ++ List.replicate (fresh n) CV.zero) R L (As ++ List.replicate (fresh n) noneT) (fun _ => Hs) (.int .i64 (C.length : Int)) e w' := by
  have f2 := f1.then F.size.1 hW
  have hl := F.len.1
  refine (rfresh9_any (F.rm.sf f2) (F.pa.sf f2) (by omega) n).mono fun _ _ ⟨g1, p', g2, g3, g4⟩ => ⟨by rw [g1, hl], p', F.fresh _ (h1.below hW) f2 g2 g3 g4, f2.low.trans g4.low⟩
theorem pvars (F : LS B wr sb rb C R p L As Hs) (W : World) (hW : Below wr.heap.size wr W) :
    Calls Try.prog 14 #[.pointer (some ⟨sb, 0, none⟩)] W fun e w' => e = .returned (.int .i64 (C.length : Int)) ∧ w' = W := svars_any (F.below hW).sm
/-- The number of variables in the reference's box. -/
theorem LS.boxN (F : LS B wr sb rb C R p L As Hs) : wr.cell? ⟨rb, 0, none⟩ = some (.int .i64 (C.length : Int)) ∧ rb < wr.heap.size := by
  obtain ⟨_, _, h0, _, _, _, _, hl, _, _⟩ := F.rm.box
  rw [F.len.2] at h0
  exact ⟨h0, hl⟩
theorem pundo1 (F : LS B wr sb rb C R p L As Hs) (hR : R.length ≤ 1000000) (hC : C.length ≤ 1000000) (hM : Hs.length ≤ 1000000) {k : Nat} {g : MK} (hk : Hs[k]? = some g) (W : World) (hW : Below wr.heap.size wr W) :
    Calls Try.prog 18 #[.pointer (some ⟨sb, 0, none⟩), .int .i64 (k : Int)] W fun e w' => Mid B wr sb ((backC C (R.drop g.r)).take g.v) (R.take g.r) ((Hs.map MK.m).take (k + 1)) (.int .i64 0) e w' := by
  have hp := F.hp k g hk
  have hrl : (R.take g.r).length = g.r := by rw [List.length_take, Nat.min_eq_left hp.r]
  refine (sundo_any (R1 := R.take g.r) (R2 := R.drop g.r) (v := g.v) (k := k) (by rw [List.take_append_drop]; exact (F.below hW).sm) (fun e he => F.tr e (List.mem_of_mem_drop he)) (by rw [List.take_append_drop]; exact hR) hC (by simpa using hM) (by rw [hrl, List.getElem?_map, hk]; rfl) hp.v).mono fun _ _ ⟨h1, h2, h3⟩ => ⟨h1, h2, (SF.below F.size.1 hW).trans h3⟩
theorem pundo2 (F : LS B wr sb rb C R p L As Hs) (hM : Hs.length ≤ 1000000) {k : Nat} {g : MK} (hk : Hs[k]? = some g) (h1 : SM w1 B sb ((backC C (R.drop g.r)).take g.v) (R.take g.r) ((Hs.map MK.m).take (k + 1))) (f1 : SF B wr w1) (W : World) (hW : Below w1.heap.size w1 W) :
    Calls Try.prog 19 #[.pointer (some ⟨rb, 0, none⟩), .int .i64 (k : Int)] W fun e w' => Both B wr sb rb g.C (R.take g.r) g.L g.A (fun _ => Hs.take (k + 1)) (.int .i64 0) e w' := by
  have f2 := f1.then F.size.1 hW
  refine (rundo9_in (q := g.q) (F.rm.sf f2) (by simpa using hM) (by rw [List.getElem?_map, hk]; rfl)).mono fun _ _ ⟨g1, g2, g3⟩ => ⟨g1, g.q, F.undo hk (h1.below hW) f2 g2 g3, f2.low.trans g3.low⟩
/-- The program's Undo alone. -/
theorem LS.undoP (F : LS B wr sb rb C R p L As Hs) {k : Nat} {g : MK} (hk : Hs[k]? = some g) (h1 : SM w1 B sb ((backC C (R.drop g.r)).take g.v) (R.take g.r) ((Hs.map MK.m).take (k + 1))) (f1 : SF B wr w1) : SM w1 B sb g.C (R.take g.r) ((Hs.take (k + 1)).map MK.m) ∧ Hw w1 g := by
  have hg := F.hp k g hk
  rw [backC_take, hg.back] at h1
  exact ⟨by rw [List.map_take]; exact h1, (F.hw k g hk).sf f1⟩
end
end Go.Proofs.Ytgoedlbdnmhppaa
namespace Go.Proofs.Ytgoedlbdnmhppaa
open Go.RowKit

def vV (n : Int) : Value := .agg #[.int .i64 1, .int .i64 n, .string ⟨#[]⟩, .slice none 0 0]
def iV (n : Int) : Value := .agg #[.int .i64 2, .int .i64 n, .string ⟨#[]⟩, .slice none 0 0]
theorem lvar9_any (n : Int) (w : World) : Calls Try.prog 16 #[.int .i64 n] w fun e w' => e = .returned (.agg #[.int .i64 1, .int .i64 n, .string ⟨#[]⟩, .slice none 0 0]) ∧ Below w.heap.size w w' := by
  go_enter Try.func16, Try.ntmps16
  go_wp2_with fail
  exact bodyPost_ret (v := .agg #[.int .i64 1, .int .i64 n, .string ⟨#[]⟩, .slice none 0 0]) (by simp [results, go_sem]) rfl ⟨rfl, (Below.refl _ _).alloc (Nat.le_refl _) _⟩
set_option maxRecDepth 100000 in
set_option maxHeartbeats 4000000 in
theorem sknown_var {B sb : Nat} {C : List CV} {R : List (CV × Nat)} {M : List (Nat × Nat)} {w : World} (h : SM w B sb C R M) (n : Int) :
    Calls Try.prog 26 #[.pointer (some ⟨sb, 0, none⟩), .agg #[.int .i64 1, .int .i64 n, .string ⟨#[]⟩, .slice none 0 0]] w fun e w' => e = .returned (.bool (decide (n < (C.length : Int)))) ∧ Below w.heap.size w w' := by
  obtain ⟨A0, c0, b0, hl⟩ := h.lenAt
  clear h
  go_enter Try.func26, Try.ntmps26
  go_wp2_with fail
  go_quiet (fail)
  go_wp2_with fail
  go_ret
  exact ⟨rfl, bel_drewN (belS (Below.refl _ _) _) _⟩
theorem sknown_int {B sb : Nat} {C : List CV} {R : List (CV × Nat)} {M : List (Nat × Nat)} {w : World} (h : SM w B sb C R M) (n : Int) (hn : I64 n) :
    Calls Try.prog 26 #[.pointer (some ⟨sb, 0, none⟩), .agg #[.int .i64 2, .int .i64 n, .string ⟨#[]⟩, .slice none 0 0]] w fun e w' => e = .returned (.bool true) ∧ Below w.heap.size w w' := by
  have hok : (T.mk 2 n ⟨#[]⟩ 0 fun _ => .nil).ok := ⟨⟨.inr (.inl ⟨rfl, hn, rfl, rfl⟩), fun i hi => absurd hi (by omega)⟩, by simp [T.nodes, sumTo]⟩
  refine (sknown_any _ hok w _ (fun _ => True) h (TP.leaf0 _ _ _ _ _ _)).mono ?_
  rintro e w' ⟨⟨b, rfl, hb⟩, h1⟩
  obtain rfl := hb.mpr (fun u hu => by rcases hu with ⟨h, _⟩ | ⟨h, _⟩ <;> exact absurd h (by decide))
  exact ⟨rfl, h1⟩
set_option maxRecDepth 100000 in
set_option maxHeartbeats 8000000 in
theorem sunify_var1 {w : World} {B sb : Nat} {C : List CV} {R : List (CV × Nat)} {M : List (Nat × Nat)} (h : SM w B sb C R M) {n : Int} (hn : (C.length : Int) ≤ n) :
    Calls Try.prog 15 #[.pointer (some ⟨sb, 0, none⟩), .agg #[.int .i64 1, .int .i64 n, .string ⟨#[]⟩, .slice none 0 0], .agg #[.int .i64 2, .int .i64 1, .string ⟨#[]⟩, .slice none 0 0]] w fun e w' => e = .returned (.tuple #[.slice none 0 0, .int .i64 1]) ∧ Below w.heap.size w w' := by
  have B2 := Lib.hid (belS (belS (Below.refl w.heap.size w) (Obj.cells #[.int .i64 1, .int .i64 n, .string ⟨#[]⟩, .slice none 0 0] 40)) (Obj.cells #[.int .i64 2, .int .i64 1, .string ⟨#[]⟩, .slice none 0 0] 40))
  have CA := Lib.hid (sknown_var (h.below B2.out) n)
  have hnl : ¬ (n < (C.length : Int)) := by omega
  clear h
  go_enter Try.func15, Try.ntmps15
  go_wp2_with fail
  refine CA.out.mono ?_
  rintro e w5 ⟨rfl, h5⟩
  have H5 := Lib.hid (B2.out.trans (h5.mono B2.out.size))
  have hd : decide (n < (C.length : Int)) = false := decide_eq_false (by omega)
  clear h5 CA
  go_wp2_with fail
  go_ret2
  exact ⟨rfl, H5.out⟩
set_option maxRecDepth 100000 in
set_option maxHeartbeats 8000000 in
theorem sunify_var2 {w : World} {B sb : Nat} {C : List CV} {R : List (CV × Nat)} {M : List (Nat × Nat)} (h : SM w B sb C R M) {n : Int} (hn : (C.length : Int) ≤ n) :
    Calls Try.prog 15 #[.pointer (some ⟨sb, 0, none⟩), .agg #[.int .i64 2, .int .i64 1, .string ⟨#[]⟩, .slice none 0 0], .agg #[.int .i64 1, .int .i64 n, .string ⟨#[]⟩, .slice none 0 0]] w fun e w' => e = .returned (.tuple #[.slice none 0 0, .int .i64 1]) ∧ Below w.heap.size w w' := by
  have B2 := Lib.hid (belS (belS (Below.refl w.heap.size w) (Obj.cells #[.int .i64 2, .int .i64 1, .string ⟨#[]⟩, .slice none 0 0] 40)) (Obj.cells #[.int .i64 1, .int .i64 n, .string ⟨#[]⟩, .slice none 0 0] 40))
  have CA := Lib.hid (sknown_int (h.below B2.out) 1 ⟨by omega, by omega⟩)
  have CB := Lib.hid (fun (W : World) (hW : Below w.heap.size w W) => sknown_var (h.below hW) n)
  have Y0 := Lib.hid (show ((w.alloc (Obj.cells #[.int .i64 2, .int .i64 1, .string ⟨#[]⟩, .slice none 0 0] 40)).alloc (Obj.cells #[.int .i64 1, .int .i64 n, .string ⟨#[]⟩, .slice none 0 0] 40)).heap[w.heap.size + 1]? = some (.cells #[.int .i64 1, .int .i64 n, .string ⟨#[]⟩, .slice none 0 0] 40 (0, 0)) from
    (congrArg _ (by simp)).trans (heap_alloc_new _ _))
  have hnl : ¬ (n < (C.length : Int)) := by omega
  clear h
  go_enter Try.func15, Try.ntmps15
  go_wp2_with fail
  refine CA.out.mono ?_
  rintro e w5 ⟨rfl, h5⟩
  have H5 := Lib.hid (B2.out.trans (h5.mono B2.out.size))
  have hy := (h5.block _ (heap_lt Y0.out)).trans Y0.out
  obtain ⟨y0, y1, y2, y3⟩ := box4 hy
  have hyl := heap_lt hy
  clear h5 CA hy
  go_wp2_with fail
  refine (CB.out _ H5.out).mono ?_
  rintro e w6 ⟨rfl, h6⟩
  have H6 := Lib.hid (H5.out.trans (h6.mono H5.out.size))
  have hd : decide (n < (C.length : Int)) = false := decide_eq_false (by omega)
  clear h6 CB
  go_wp2_with fail
  go_ret2
  exact ⟨rfl, H6.out⟩
set_option maxRecDepth 100000 in
set_option maxHeartbeats 8000000 in
theorem swalk_var {w : World} {B sb : Nat} {C : List CV} {R : List (CV × Nat)} {M : List (Nat × Nat)} (h : SM w B sb C R M) {i : Nat} {c : CV} (hc : C[i]? = some c) (hb : c.b = false) :
    Calls Try.prog 29 #[.pointer (some ⟨sb, 0, none⟩), .agg #[.int .i64 1, .int .i64 (i : Int), .string ⟨#[]⟩, .slice none 0 0]] w fun e w' => e = .returned (.agg #[.int .i64 1, .int .i64 (i : Int), .string ⟨#[]⟩, .slice none 0 0]) ∧ Below w.heap.size w w' := by
  have hin := lt_of_at hc
  have HS := Lib.hid h
  obtain ⟨q, ⟨tk, tn, ts, tA, tm, tc⟩, ⟨ak, an, as_, aA, am, ac⟩⟩ := c
  obtain rfl : q = false := hb
  have HC := Lib.hid hc
  have hls := h.lenAt
  obtain ⟨_, _, _, hls⟩ := hls
  clear h hc
  go_enter Try.func29, Try.ntmps29
  go_wp2_with fail
  go_loopw [28] (fun _ wr => wr.heap[w.heap.size]? = some (.cells #[.int .i64 1, .int .i64 (i : Int), .string ⟨#[]⟩, .slice none 0 0] 40 (0, 0)) ∧ wr.heap[w.heap.size + 1]? = some (.cells #[.int .i64 0, .int .i64 0, .string ⟨#[]⟩, .slice none 0 0] 40 (0, 0)) ∧ Below w.heap.size w wr) (fun _ _ => 0)
  case atStart =>
    exact ⟨(Below.heap_alloc _ _ _ (by simp)).trans (heap_alloc_new _ _), (congrArg _ (by simp)).trans (heap_alloc_new _ _), belS (belS (Below.refl _ _) _) _⟩
  case round =>
    obtain ⟨hx, hy, hb⟩ := hrel
    have HY := Lib.hid hy
    have HB := Lib.hid hb
    obtain ⟨g0, c0, cs, b0, hl, hh0, hcc, hel⟩ := (HS.out.below hb).cellAt HC.out
    have o0 := hel 0 _ rfl
    simp only [Nat.add_zero] at o0
    have hl0 := heap_lt hh0
    have hini : (i : Int) < (C.length : Int) := by omega
    obtain ⟨x0, x1, x2, x3⟩ := box4 hx
    obtain ⟨y0, y1, y2, y3⟩ := box4 hy
    have yf := unfrozen hy
    have hgl := heap_lt hx
    have hgl1 := heap_lt hy
    have P1 := Lib.hid (fun nq => put_new0 (w := w) (wr := wr.drewN nq) HY.out (Nat.le_succ _) (bel_drewN HB.out nq) (.int .i64 1) (.int .i64 (i : Int)) (.string ⟨#[]⟩) (.slice none 0 0))
    clear hel hh0 hx hy hb
    go_wp2_with fail
    go_quiet (fail)
    go_wp2_with fail
    obtain ⟨p0, p1, p2, p3⟩ := box4 (P1.out nq).1
    refine bodyPost_ret (v := .agg #[.int .i64 1, .int .i64 (i : Int), .string ⟨#[]⟩, .slice none 0 0]) (by simp [results, go_sem, p0, p1, p2, p3]) rfl ?_
    exact ⟨rfl, (P1.out nq).2.2⟩
set_option maxRecDepth 100000 in
set_option maxHeartbeats 8000000 in
theorem sres_var {w : World} {B sb : Nat} {C : List CV} {R : List (CV × Nat)} {M : List (Nat × Nat)} (h : SM w B sb C R M) {i : Nat} {c : CV} (hc : C[i]? = some c) (hb : c.b = false) :
    Calls Try.prog 17 #[.pointer (some ⟨sb, 0, none⟩), .agg #[.int .i64 1, .int .i64 (i : Int), .string ⟨#[]⟩, .slice none 0 0]] w fun e w' => e = .returned (.agg #[.int .i64 1, .int .i64 (i : Int), .string ⟨#[]⟩, .slice none 0 0]) ∧ Below w.heap.size w w' := by
  have B2 := Lib.hid (belS (belS (Below.refl w.heap.size w) (Obj.cells #[.int .i64 1, .int .i64 (i : Int), .string ⟨#[]⟩, .slice none 0 0] 40)) (Obj.cells #[.int .i64 0, .int .i64 0, .string ⟨#[]⟩, .slice none 0 0] 40))
  have CA := Lib.hid (swalk_var (h.below B2.out) hc hb)
  have X0 := Lib.hid (show ((w.alloc (Obj.cells #[.int .i64 1, .int .i64 (i : Int), .string ⟨#[]⟩, .slice none 0 0] 40)).alloc (Obj.cells #[.int .i64 0, .int .i64 0, .string ⟨#[]⟩, .slice none 0 0] 40)).heap[w.heap.size]? = some (.cells #[.int .i64 1, .int .i64 (i : Int), .string ⟨#[]⟩, .slice none 0 0] 40 (0, 0)) from
    (Below.heap_alloc _ _ _ (by simp)).trans (heap_alloc_new _ _))
  have Y0 := Lib.hid (show ((w.alloc (Obj.cells #[.int .i64 1, .int .i64 (i : Int), .string ⟨#[]⟩, .slice none 0 0] 40)).alloc (Obj.cells #[.int .i64 0, .int .i64 0, .string ⟨#[]⟩, .slice none 0 0] 40)).heap[w.heap.size + 1]? = some (.cells #[.int .i64 0, .int .i64 0, .string ⟨#[]⟩, .slice none 0 0] 40 (0, 0)) from
    (congrArg _ (by simp)).trans (heap_alloc_new _ _))
  clear h hc hb
  go_enter Try.func17, Try.ntmps17
  go_wp2_with fail
  refine CA.out.mono ?_
  rintro e w1 ⟨rfl, h1⟩
  have hx := (h1.block _ (heap_lt X0.out)).trans X0.out
  have hy := (h1.block _ (heap_lt Y0.out)).trans Y0.out
  have H1 := Lib.hid (B2.out.trans (h1.mono B2.out.size))
  obtain ⟨x0, x1, x2, x3⟩ := box4 hx
  obtain ⟨y0, y1, y2, y3⟩ := box4 hy
  have xf := unfrozen hx
  have yf := unfrozen hy
  have hxl := heap_lt hx
  have hyl := heap_lt hy
  have P := Lib.hid (put_new0 hx (Nat.le_refl _) H1.out (.int .i64 1) (.int .i64 (i : Int)) (.string ⟨#[]⟩) (.slice none 0 0))
  have Q := Lib.hid (put_new0 ((P.out.2.1 _ (by omega)).trans hy) (Nat.le_succ _) P.out.2.2 (.int .i64 1) (.int .i64 (i : Int)) (.string ⟨#[]⟩) (.slice none 0 0))
  clear h1 CA hx hy
  go_wp2_with fail
  obtain ⟨p0, p1, p2, p3⟩ := box4 Q.out.1
  refine bodyPost_ret (v := .agg #[.int .i64 1, .int .i64 (i : Int), .string ⟨#[]⟩, .slice none 0 0]) (by simp [results, go_sem, p0, p1, p2, p3]) rfl ?_
  exact ⟨rfl, Q.out.2.2⟩
end Go.Proofs.Ytgoedlbdnmhppaa
namespace Go.Proofs.Ytgoedlbdnmhppaa
open Go.RowKit
attribute [local go_sem ↓] Go.wp_at_zero Go.wp_at_succ

/-- A row of integers that a law is given. -/
structure IntsA (w : World) (A : Option Addr) (m c : Nat) (z : Nat → Int) : Prop where
  cap : m ≤ c
  rng : ∀ i, i < m → I64 (z i)
  at_ : 0 < m → ∃ b off, A = some ⟨b, off, none⟩ ∧ b < w.heap.size ∧ ∀ i, i < m → w.cell? ⟨b, off + i, none⟩ = some (.int .i64 (z i))
theorem fieldTA (k n : Int) (s : ByteArray) (A : Option Addr) (m c : Nat) (W : World) : (Instr.field 40 (.agg #[.int .i64 k, .int .i64 n, .string s, .slice A m c]) 1).run Try.prog W = .ok (.int .i64 n) W ∧ (Instr.field 40 (.agg #[.int .i64 k, .int .i64 n, .string s, .slice A m c]) 0).run Try.prog W = .ok (.int .i64 k) W := by
  constructor <;> kernel_rfl
/-- Where the program's store stands. -/
structure LP (B : Nat) (w : World) (sb : Nat) (C : List CV) (R : List (CV × Nat)) (Hs : List MK) : Prop where
  sm : SM w B sb C R (Hs.map MK.m)
  tr : ∀ e ∈ R, e.2 < C.length
  hp : ∀ (k : Nat) (h : MK), Hs[k]? = some h → Hp C R h
  mono : ∀ (j k : Nat) (h h' : MK), j ≤ k → Hs[j]? = some h → Hs[k]? = some h' → h.r ≤ h'.r ∧ h.v ≤ h'.v
theorem LP.below {B : Nat} {w w' : World} {sb : Nat} {C : List CV} {R : List (CV × Nat)} {Hs : List MK} (h : LP B w sb C R Hs) (hb : Below w.heap.size w w') : LP B w' sb C R Hs := ⟨h.sm.below hb, h.tr, h.hp, h.mono⟩
theorem LP.mark {B : Nat} {w w1 : World} {sb : Nat} {C : List CV} {R : List (CV × Nat)} {Hs : List MK} (h : LP B w sb C R Hs) (h1 : SM w1 B sb C R (Hs.map MK.m ++ [(R.length, C.length)])) : LP B w1 sb C R (Hs ++ [⟨R.length, C.length, PV.zero, C, [], []⟩]) := by
  have hnew := Hp.new C R PV.zero [] [] h.tr
  have key : ∀ (k : Nat) (g : MK), (Hs ++ [⟨R.length, C.length, PV.zero, C, [], []⟩])[k]? = some g → Hs[k]? = some g ∨ (k = Hs.length ∧ g = ⟨R.length, C.length, PV.zero, C, [], []⟩) := fun k g hg => by
    by_cases hlt : k < Hs.length
    · rw [List.getElem?_append_left hlt] at hg; exact .inl hg
    · rw [List.getElem?_append_right (by omega)] at hg
      have h0 : k = Hs.length := by
        rcases Nat.eq_zero_or_pos (k - Hs.length) with h | h
        · omega
        · rw [List.getElem?_eq_none (by simp; omega)] at hg; cases hg
      subst h0
      simp at hg
      exact .inr ⟨rfl, hg.symm⟩
  refine ⟨by rw [List.map_append]; exact h1, h.tr, fun k g hg => ?_, fun j k g g' hjk hj hk => ?_⟩
  · rcases key k g hg with h0 | ⟨_, rfl⟩
    · exact h.hp k g h0
    · exact hnew
  · rcases key k g' hk with h0 | ⟨e0, rfl⟩
    · rcases key j g hj with h3 | ⟨e3, rfl⟩
      · exact h.mono j k g g' hjk h3 h0
      · have := lt_of_at h0; omega
    · rcases key j g hj with h3 | ⟨e3, rfl⟩
      · exact ⟨(h.hp j g h3).r, (h.hp j g h3).v⟩
      · exact ⟨Nat.le_refl _, Nat.le_refl _⟩
theorem LP.grow {B : Nat} {w1 w : World} {sb : Nat} {C C' : List CV} {R R2 : List (CV × Nat)} {Hs : List MK} (h : LP B w sb C R Hs) (h1 : SM w1 B sb C' (R ++ R2) (Hs.map MK.m)) (hb : backC C' R2 = C) (hl : C'.length = C.length) (ht : ∀ e ∈ R2, e.2 < C.length) : LP B w1 sb C' (R ++ R2) Hs :=
  ⟨h1, fun e he => by
    rw [hl]
    rcases List.mem_append.mp he with he | he
    · exact h.tr e he
    · exact ht e he, fun k g hg => (h.hp k g hg).grow hb hl, h.mono⟩
theorem LP.undo {B : Nat} {w w1 : World} {sb k : Nat} {C : List CV} {R : List (CV × Nat)} {Hs : List MK} {g : MK} (h : LP B w sb C R Hs) (hk : Hs[k]? = some g)
    (h1 : SM w1 B sb ((backC C (R.drop g.r)).take g.v) (R.take g.r) ((Hs.map MK.m).take (k + 1))) : LP B w1 sb g.C (R.take g.r) (Hs.take (k + 1)) := by
  have hg := h.hp k g hk
  rw [backC_take, hg.back] at h1
  have key : ∀ (j : Nat) (x : MK), (Hs.take (k + 1))[j]? = some x → Hs[j]? = some x ∧ j ≤ k := fun j x hx => by
    rw [List.getElem?_take] at hx
    split at hx
    · exact ⟨hx, by omega⟩
    · cases hx
  refine ⟨by rw [List.map_take]; exact h1, fun e he => by have := hg.tr e he; have := hg.len; omega, fun j x hx => ?_, fun i j x x' hij hi hj => ?_⟩
  · obtain ⟨hx, hjk⟩ := key j x hx
    obtain ⟨h3, h4⟩ := h.mono j k x g hjk hx hk
    exact (h.hp j x hx).undo hg h3 h4
  · exact h.mono i j x x' hij (key i x hi).1 (key j x' hj).1
theorem LP.size {B : Nat} {w : World} {sb : Nat} {C : List CV} {R : List (CV × Nat)} {Hs : List MK} (h : LP B w sb C R Hs) : B ≤ w.heap.size ∧ sb < w.heap.size := by
  obtain ⟨_, _, _, hl⟩ := h.sm.lenAt
  have := h.sm.ge
  exact ⟨by omega, hl⟩
/-- Four cells, of which one has an attribute. -/
def ck (k : Nat) (a : TV) : List CV := (List.replicate 4 CV.zero).set k ⟨false, TV.zero, a⟩
theorem ck_len (k : Nat) (a : TV) : (ck k a).length = 4 := by simp [ck]
theorem ck_at {k : Nat} (hk : k < 4) (a : TV) : (ck k a)[k]? = some ⟨false, TV.zero, a⟩ := by
  unfold ck
  rw [List.getElem?_set, if_pos rfl, if_pos (by simpa using hk)]
theorem ck_zero {k : Nat} (hk : k < 4) : List.replicate 4 CV.zero = ck k TV.zero := by
  unfold ck
  apply List.ext_getElem?
  intro i
  rw [List.getElem?_set]
  by_cases e : k = i
  · subst e
    rw [if_pos rfl, if_pos (by simpa using hk), List.getElem?_replicate, if_pos hk]
    rfl
  · rw [if_neg e]
theorem ck_set (k : Nat) (a b : TV) : (ck k a).set k ⟨false, TV.zero, b⟩ = ck k b := by
  unfold ck
  rw [List.set_set]
def ivT (n : Int) : TV := ⟨2, n, ⟨#[]⟩, none, 0, 0⟩
def av (z : Nat → Int) : Nat → TV
  | 0 => TV.zero
  | i + 1 => ivT (z i)
theorem ck_bound (k : Nat) (a : TV) (w : World) : CL w (ck k a) [] := by
  refine ⟨EnvOk.nil, fun p hp => (by cases hp), fun p hp => (by cases hp), fun i c hc => ⟨fun _ => ?_, fun t ht => by cases ht⟩⟩
  unfold ck at hc
  rw [List.getElem?_set] at hc
  split at hc
  · split at hc
    · injection hc with hc; subst hc; rfl
    · cases hc
  · rw [List.getElem?_replicate] at hc
    split at hc
    · injection hc with hc; subst hc; rfl
    · cases hc
def atomA : T := .mk 3 0 ⟨#[97]⟩ 0 fun _ => .nil
theorem uni_atom (k : Nat) : uniF 2000 [] [(varT (k : Int), atomA)] = .ok [((k : Int), atomA)] 1999 := by
  have hr : ¬ Reach [] (k : Int) atomA := fun h => by
    cases h with
    | var e => exact absurd (var_iff.mp e).1 (by decide)
    | bind e _ _ => exact absurd (var_iff.mp e).1 (by decide)
  rw [uniF_one]
  show (match stepU [] (varT (k : Int)) atomA with | .fail => _ | .bind n t => _ | .args m g h => _) = _
  rw [show stepU [] (varT (k : Int)) atomA = .bind (k : Int) atomA from stepU_v_no rfl (by decide) hr]
  rfl
theorem getElem?_of_take {α : Type} {l : List α} {n x : Nat} {h : α} (hx : (l.take n)[x]? = some h) : l[x]? = some h := by
  rw [List.getElem?_take] at hx
  split at hx
  · exact hx
  · cases hx
section
variable {B : Nat} {wr : World} {sb k : Nat} {C : List CV} {R : List (CV × Nat)} {Hs : List MK} {a : TV}
theorem lmark (F : LP B wr sb C R Hs) (hM : Hs.length ≤ 1000000) (W : World) (hW : Below wr.heap.size wr W) :
    Calls Try.prog 10 #[.pointer (some ⟨sb, 0, none⟩)] W fun e w' => e = .returned (.int .i64 (Hs.length : Int)) ∧ LP B w' sb C R (Hs ++ [⟨R.length, C.length, PV.zero, C, [], []⟩]) ∧ Below B wr w' :=
  (smark_any (F.below hW).sm (by simpa using hM)).mono fun _ _ ⟨h1, h2, h3⟩ => ⟨by rw [h1]; simp, F.mark h2, (hW.mono F.size.1).trans h3.low⟩
theorem lset (F : LP B wr sb (ck k a) R Hs) (hk : k < 4) (hR : R.length ≤ 1000000) (v : Int) (W : World) (hW : Below wr.heap.size wr W) :
    Calls Try.prog 21 #[.pointer (some ⟨sb, 0, none⟩), .int .i64 (k : Int), .agg #[.int .i64 2, .int .i64 v, .string ⟨#[]⟩, .slice none 0 0]] W fun e w' => e = .returned (.int .i64 0) ∧ LP B w' sb (ck k (ivT v)) (R ++ [(⟨false, TV.zero, a⟩, k)]) Hs ∧ Below B wr w' := by
  refine (sset_in (F.below hW).sm hR (ck_at hk a) (ivT v)).mono fun e w' h => ?_
  rcases h with ⟨h, _⟩ | ⟨_, rfl, h2, h3⟩
  · cases h
  · have h2' : SM w' B sb (ck k (ivT v)) (R ++ [(⟨false, TV.zero, a⟩, k)]) (Hs.map MK.m) := by rw [← ck_set k a (ivT v)]; exact h2
    refine ⟨rfl, F.grow h2' ?_ (by rw [ck_len, ck_len]) (fun e he => by simp at he; subst he; rw [ck_len]; exact hk), (hW.mono F.size.1).trans h3.low⟩
    show (ck k (ivT v)).set k _ = ck k a
    exact ck_set k (ivT v) a
theorem lattr (F : LP B wr sb C R Hs) {c : CV} (hc : C[k]? = some c) (W : World) (hW : Below wr.heap.size wr W) :
    Calls Try.prog 20 #[.pointer (some ⟨sb, 0, none⟩), .int .i64 (k : Int)] W fun e w' => e = .returned (.agg #[.int .i64 c.attr.k, .int .i64 c.attr.n, .string c.attr.s, .slice c.attr.A c.attr.m c.attr.c]) ∧ LP B w' sb C R Hs ∧ Below wr.heap.size wr w' :=
  (sattr_in (F.below hW).sm hc).mono fun _ _ ⟨h1, h2⟩ => ⟨h1, (F.below hW).below h2, hW.trans (h2.mono hW.size)⟩
theorem lset_bound (F : LP B wr sb C R Hs) (hR : R.length ≤ 1000000) {c : CV} (hc : C[k]? = some c) (hb : c.b = true) (W : World) (hW : Below wr.heap.size wr W) :
    Calls Try.prog 21 #[.pointer (some ⟨sb, 0, none⟩), .int .i64 (k : Int), .agg #[.int .i64 0, .int .i64 0, .string ⟨#[]⟩, .slice none 0 0]] W fun e w' => e = .returned (.int .i64 1) ∧ LP B w' sb C R Hs ∧ Below wr.heap.size wr w' := by
  refine (sset_in (F.below hW).sm hR hc TV.zero).mono fun e w' h => ?_
  rcases h with ⟨_, rfl, h2⟩ | ⟨h, _⟩
  · exact ⟨rfl, (F.below hW).below h2, hW.trans (h2.mono hW.size)⟩
  · rw [hb] at h; cases h
theorem lset_out (F : LP B wr sb C R Hs) {n : Int} (ho : n < 0 ∨ (C.length : Int) ≤ n) (W : World) (hW : Below wr.heap.size wr W) :
    Calls Try.prog 21 #[.pointer (some ⟨sb, 0, none⟩), .int .i64 n, .agg #[.int .i64 0, .int .i64 0, .string ⟨#[]⟩, .slice none 0 0]] W fun e w' => e = .returned (.int .i64 1) ∧ LP B w' sb C R Hs ∧ Below wr.heap.size wr w' :=
  (sset_out (F.below hW).sm ho TV.zero).mono fun _ _ ⟨h1, h2⟩ => ⟨h1, (F.below hW).below h2, hW.trans (h2.mono hW.size)⟩
theorem lundo (F : LP B wr sb C R Hs) (hR : R.length ≤ 1000000) (hC : C.length ≤ 1000000) (hM : Hs.length ≤ 1000000) {g : MK} (hk : Hs[k]? = some g) (W : World) (hW : Below wr.heap.size wr W) :
    Calls Try.prog 18 #[.pointer (some ⟨sb, 0, none⟩), .int .i64 (k : Int)] W fun e w' => e = .returned (.int .i64 0) ∧ LP B w' sb g.C (R.take g.r) (Hs.take (k + 1)) ∧ Below B wr w' := by
  have hp := F.hp k g hk
  have hrl : (R.take g.r).length = g.r := by rw [List.length_take, Nat.min_eq_left hp.r]
  refine (sundo_any (R1 := R.take g.r) (R2 := R.drop g.r) (v := g.v) (k := k) (by rw [List.take_append_drop]; exact (F.below hW).sm) (fun e he => F.tr e (List.mem_of_mem_drop he)) (by rw [List.take_append_drop]; exact hR) hC (by simpa using hM) (by rw [hrl, List.getElem?_map, hk]; rfl) hp.v).mono fun _ _ ⟨h1, h2, h3⟩ => ⟨h1, F.undo hk h2, (hW.mono F.size.1).trans h3.low⟩
def LUniP (B : Nat) (wr : World) (sb k : Nat) (a : TV) (Hs : List MK) (e : Ending) (w' : World) : Prop := ∃ (v : Value) (C' : List CV) (R' : List (CV × Nat)) (c : CV), e = .returned (.tuple #[v, .int .i64 0]) ∧ LP B w' sb C' R' Hs ∧ C'[k]? = some c ∧ c.b = true ∧ c.attr = a ∧ C'.length = 4 ∧ R'.length ≤ 5000 ∧ Below B wr w'
theorem lunify (F : LP B wr sb (ck k a) R Hs) (hk : k < 4) (hR : R.length ≤ 3000) (W : World) (hW : Below wr.heap.size wr W) :
    Calls Try.prog 15 #[.pointer (some ⟨sb, 0, none⟩), .agg #[.int .i64 1, .int .i64 (k : Int), .string ⟨#[]⟩, .slice none 0 0], .agg #[.int .i64 3, .int .i64 0, .string ⟨#[97]⟩, .slice none 0 0]] W fun e w' => LUniP B wr sb k a Hs e w' := by
  have ok1 : (varT (k : Int)).ok := ⟨⟨.inl ⟨rfl, by omega, by omega, rfl, rfl⟩, fun i hi => absurd hi (by omega)⟩, by simp [varT, T.nodes, sumTo]⟩
  have ok2 : atomA.ok := ⟨⟨.inr (.inr (.inl ⟨rfl, rfl, by decide, rfl⟩)), fun i hi => absurd hi (by omega)⟩, by simp [atomA, T.nodes, sumTo]⟩
  have kn1 : allV (varT (k : Int)) ((ck k a).length : Int) := fun u hu => by
    rcases hu with ⟨_, rfl⟩ | ⟨h, _⟩
    · rw [ck_len]; omega
    · exact absurd h (by decide)
  have kn2 : allV atomA ((ck k a).length : Int) := fun u hu => by rcases hu with ⟨h, _⟩ | ⟨h, _⟩ <;> exact absurd h (by decide)
  refine (sunify_any (F.below hW).sm (ck_bound k a W) (by omega) (by rw [ck_len]; omega) (ta := varT (k : Int)) (tb := atomA) (TP.leaf0 _ _ _ _ _ _) (TP.leaf0 _ _ _ _ _ _) ok1 ok2 kn1 kn2).mono fun e w' h => ?_
  rw [uni_atom] at h
  obtain ⟨⟨v, Ns, C', R', hN, rfl, _, hs, hc, hg, hl⟩, hf⟩ := h
  obtain ⟨R2, rfl, hb, _, ht⟩ := hg.ex
  obtain ⟨c, hcc⟩ := at_of_lt (C := C') (n := k) (by rw [hg.len, ck_len]; exact hk)
  obtain ⟨c0, h0, h1⟩ := hg.at_ k c hcc
  rw [ck_at hk] at h0
  injection h0 with h0
  subst h0
  refine ⟨v, C', R ++ R2, c, rfl, F.grow hs hb hg.len ht, hcc, ?_, h1, by rw [hg.len, ck_len], by omega, (hW.mono F.size.1).trans hf.low⟩
  rw [hc.bound hcc]
  simp [findB]
end
set_option maxRecDepth 100000 in
set_option maxHeartbeats 16000000 in
theorem stattrs_any {w : World} {A : Option Addr} {m c : Nat} {z : Nat → Int} (hz : IntsA w A m c z) (n : Nat) (hn : n ≤ 255) :
    Calls Try.prog 4 #[.slice A m c, .int .u8 (n : Int)] w fun e w' => e = .returned (.bool true) ∧ Below w.heap.size w w' := by
  have HZ := Lib.hid hz
  have hmc := hz.cap
  clear hz
  by_cases hm : (60 : Int) < (m : Int)
  · have hm' : (m : Int) > 60 := hm
    go_enter Try.func4, Try.ntmps4
    go_wp2_with fail
    go_ret
    exact ⟨rfl, Below.refl _ _⟩
  have hm' : ¬ ((m : Int) > 60) := hm
  have hn1 : (n : Int) ≤ 255 := by omega
  go_enter Try.func4, Try.ntmps4
  go_upto_region 4 with fail
  obtain ⟨k, hk⟩ : ∃ k, n % 4 = k := ⟨_, rfl⟩
  have hk4 : k < 4 := by omega
  have hkn : (n : Int) % 4 = (k : Int) := by omega
  rw [hkn]
  clear hkn
  go_wp2_with fail
  refine (snew_any w).mono ?_
  rintro e w1 ⟨rfl, hs1, h1⟩
  have S1 := Lib.hid hs1
  have H1 := Lib.hid h1
  clear hs1 h1
  go_wp2_with fail
  refine (sfresh_any S1.out (by simp) 4).mono ?_
  rintro e w2 ⟨rfl, hs2, hf2⟩
  rw [show ([] ++ List.replicate (fresh 4) CV.zero) = ck k TV.zero by rw [List.nil_append, show fresh 4 = 4 by decide]; exact ck_zero hk4] at hs2
  have F2 := Lib.hid (show LP w.heap.size w2 w.heap.size (ck k TV.zero) [] [] from ⟨hs2, fun e he => by (cases he), fun j h hj => by (simp at hj), fun i j h h' _ hj => by (simp at hj)⟩)
  have B2 := Lib.hid (H1.out.trans hf2.low)
  clear hs2 hf2 S1 H1
  go_wp2_with fail
  refine (lattr F2.out (ck_at hk4 _) _ (Below.refl _ _)).mono ?_
  rintro e w3 ⟨rfl, hF3, hb3⟩
  have F3 := Lib.hid hF3
  have B3 := Lib.hid (B2.out.trans (hb3.mono B2.out.size))
  have FT0 := fun W => (fieldTA 0 0 ⟨#[]⟩ none 0 0 W).2
  simp only [TV.zero]
  clear hF3 hb3 F2 B2
  go_wp2_with fail
  clear FT0
  go_loopw [7] (fun iv wr => ∃ (i : Nat) (R : List (CV × Nat)) (Hs : List MK), iv = .int .i64 (i : Int) ∧ i ≤ m ∧ Hs.length = i ∧ R.length = i ∧ (∀ j h, Hs[j]? = some h → h.C = ck k (av z j)) ∧ LP w.heap.size wr w.heap.size (ck k (av z i)) R Hs ∧ Below w.heap.size w wr) (fun iv _ => m - (intOf iv).toNat)
  case atStart => exact ⟨0, [], [], rfl, Nat.zero_le _, rfl, rfl, (fun j h hj => by simp at hj), F3.out, B3.out⟩
  case round =>
    clear F3 B3
    obtain ⟨i, R, Hs, rfl, hi, hhl, hrl, hall, hf, hb⟩ := hrel
    have F := Lib.hid hf
    have HB := Lib.hid hb
    have HA := Lib.hid hall
    have HHL := Lib.hid hhl
    have HRL := Lib.hid hrl
    have hi1 := Nat.le_of_eq hhl
    have hi2 := Nat.le_of_eq hrl
    have hi3 := Nat.le_of_eq hhl.symm
    clear hf hb hall hhl hrl
    by_cases him : i < m
    · have him' : (i : Int) < (m : Int) := by omega
      obtain ⟨b, off, rfl, hbl, hcz⟩ := HZ.out.at_ (by omega)
      have KZ := Lib.hid (show ∀ W, Below w.heap.size w W → W.cell? ⟨b, off + i, none⟩ = some (.int .i64 (z i)) from fun W hW => (hW.cell (p := ⟨b, off + i, none⟩) hbl).trans (hcz i him))
      have hbl' := Nat.lt_of_lt_of_le hbl HB.out.size
      have hM : Hs.length ≤ 1000000 := by omega
      have hR : R.length ≤ 1000000 := by omega
      have lw0 := HB.out
      have hii : ((Hs.length : Int) != (i : Int)) = false := by rw [HHL.out]; simp
      have CM := Lib.hid (fun W hW => lmark F.out hM W hW)
      have FT := fun W => (fieldTA 2 (z i) ⟨#[]⟩ none 0 0 W).1
      clear hcz
      go_wp2_with fail
      go_region_held3 (fun w' => w'.cell? ⟨b, off + i, none⟩ = some (.int .i64 (z i)))
        (exact KZ.out _ (by (repeat (first | (with_reducible assumption) | (with_reducible refine Below.drew ?_)))))
        ((first
        | (go_at_call 10; (with_reducible refine (CM.out _ (by (repeat (first | (with_reducible exact Below.refl _ _) | (with_reducible refine Below.drew ?_))))).mono ?_); rintro e wa ⟨rfl, hFa, hba⟩; have lwa := lw0.trans hba)
        | (go_at_call 21; (with_reducible refine (lset hFa hk4 hR _ _ (by (repeat (first | (with_reducible exact Below.refl _ _) | (with_reducible refine Below.drew ?_))))).mono ?_); rintro e wb ⟨rfl, hFb, hbb⟩; have lwb := lwa.trans hbb)
        | (go_at_call 20; (with_reducible refine (lattr hFb (ck_at hk4 _) _ (by (repeat (first | (with_reducible exact Below.refl _ _) | (with_reducible refine Below.drew ?_))))).mono ?_); rintro e wc ⟨rfl, hFc, hbc⟩; have lwc := lwb.trans (hbc.mono lwb.size); simp only [ivT])))
      all_goals
        have FC := Lib.hid (show LP w.heap.size _ w.heap.size (ck k (av z (i + 1))) (R ++ [((⟨false, TV.zero, av z i⟩ : CV), k)]) (Hs ++ [(⟨R.length, (ck k (av z i)).length, PV.zero, ck k (av z i), [], []⟩ : MK)]) from hFc)
        have LC := Lib.hid lwc
        clear hFc lwc hFa hba hFb hbb hbc CM lwa lwb
        go_wp2_with fail
        go_roundw
      all_goals (try (simp only [intOf]; omega))
      all_goals exact ⟨i + 1, R ++ [((⟨false, TV.zero, av z i⟩ : CV), k)], Hs ++ [(⟨R.length, (ck k (av z i)).length, PV.zero, ck k (av z i), [], []⟩ : MK)], by go_num, him, by rw [List.length_append, List.length_singleton, HHL.out], by rw [List.length_append, List.length_singleton, HRL.out], (fun j h hj => by
        by_cases hlt : j < Hs.length
        · rw [List.getElem?_append_left hlt] at hj; exact HA.out j h hj
        · rw [List.getElem?_append_right (by omega)] at hj
          have h0 : j = Hs.length := by
            rcases Nat.eq_zero_or_pos (j - Hs.length) with h | h
            · omega
            · rw [List.getElem?_eq_none (by simp; omega)] at hj; cases hj
          subst h0
          simp at hj
          subst hj
          rw [HHL.out]), FC.out, by first | exact LC.out | exact LC.out.drew⟩
    · obtain rfl : i = m := by omega
      go_wp2_with fail
      refine (lvar9_any _ _).mono ?_
      rintro e w4 ⟨rfl, h4⟩
      have F4 := Lib.hid (F.out.below h4)
      have B4 := Lib.hid (HB.out.trans (h4.mono HB.out.size))
      clear h4 F HB
      go_wp2_with fail
      refine (lunify F4.out hk4 (by omega) _ (Below.refl _ _)).mono ?_
      rintro e w5 ⟨uv, C', R', c', rfl, hF5, hc', hcb, hca, hC4, hR5, hb5⟩
      have F5 := Lib.hid hF5
      have B5 := Lib.hid (B4.out.trans hb5)
      have HC' := Lib.hid hc'
      have HCB := Lib.hid hcb
      have HCA := Lib.hid hca
      have HC4 := Lib.hid hC4
      clear hF5 hb5 hc' hcb hca hC4 F4 B4
      have lw0 := B5.out
      have CSB := Lib.hid (fun W hW => lset_bound F5.out (by omega) HC'.out HCB.out W hW)
      have HMA := Lib.hid HA.out
      by_cases hm0 : i = 0
      · have hgt : ¬ ((i : Int) > 0) := by omega
        have hgt2 : decide (0 < i) = false := decide_eq_false (by omega)
        have hgt3 : ¬ (0 < i) := by omega
        have HM0 := Lib.hid hm0
        clear hm0
        go_wp2_with fail
        refine wp_region_held_drew (S := fun w1 => True) (by kernel_rfl) ?Sr13 (fun hH0 => ?Br13)
        case Sr13 => (trivial)
        refine wpAnyH_take (i := 0) (oi := { dst := some 69, op := Go.Op.move (Go.Operand.tmp 9), type := 36, pos := "law.go:230", after := #[], guard := none }) (v := ?vr130) rfl (by kernel_rfl) (by kernel_rfl) (by kernel_rfl) (fun _ _ _ h => h) (Or.inl ⟨by rfl, ?hyr130⟩) (by assumption) ?restr130
        case hyr130 => (intro w hSw; (try dsimp only at hSw); go_simp; try with_reducible rfl)
        try simp only [Act.put, List.setIfInBounds_toArray, List.set_cons_zero, List.set_cons_succ]
        refine wpAnyH_take (i := 1) (oi := { dst := some 70, op := Go.Op.binOp Go.BinOp.neq 36 (Go.Operand.tmp 69) (Go.Operand.const (Go.Value.int Go.IntKind.i64 0)) 36, type := 4, pos := "law.go:230", after := #[{ on := 0, ground := Go.Ground.data }], guard := none }) (v := ?vr131) rfl (by kernel_rfl) (by kernel_rfl) (by kernel_rfl) (fun _ _ _ h => h) (Or.inl ⟨by rfl, ?hyr131⟩) (by assumption) ?restr131
        case hyr131 => (intro w hSw; (try dsimp only at hSw); go_simp; try with_reducible rfl)
        try simp only [Act.put, List.setIfInBounds_toArray, List.set_cons_zero, List.set_cons_succ]
        refine wpAnyH_take (i := 2) (oi := { dst := some 71, op := Go.Op.move (Go.Operand.tmp 70), type := 4, pos := "law.go:230", after := #[{ on := 1, ground := Go.Ground.data }], guard := none }) (v := ?vr132) rfl (by kernel_rfl) (by kernel_rfl) (by kernel_rfl) (fun _ _ _ h => h) (Or.inl ⟨by rfl, ?hyr132⟩) (by assumption) ?restr132
        case hyr132 => (intro w hSw; (try dsimp only at hSw); go_simp; try with_reducible rfl)
        try simp only [Act.put, List.setIfInBounds_toArray, List.set_cons_zero, List.set_cons_succ]
        refine wpAnyH_take (i := 3) (oi := { dst := some 72, op := Go.Op.move (Go.Operand.tmp 6), type := 23, pos := "law.go:230", after := #[{ on := 2, ground := Go.Ground.guard }], guard := some (2, false) }) (v := ?vr133) rfl (by kernel_rfl) (by kernel_rfl) (by kernel_rfl) (fun _ _ _ h => h) (Or.inl ⟨by rfl, ?hyr133⟩) (by assumption) ?restr133
        case hyr133 => (intro w hSw; (try dsimp only at hSw); go_simp; try with_reducible rfl)
        try simp only [Act.put, List.setIfInBounds_toArray, List.set_cons_zero, List.set_cons_succ]
        refine wpAnyH_take (i := 4) (oi := { dst := some 73, op := Go.Op.move (Go.Operand.tmp 5), type := 3, pos := "law.go:230", after := #[{ on := 2, ground := Go.Ground.guard }], guard := some (2, false) }) (v := ?vr134) rfl (by kernel_rfl) (by kernel_rfl) (by kernel_rfl) (fun _ _ _ h => h) (Or.inl ⟨by rfl, ?hyr134⟩) (by assumption) ?restr134
        case hyr134 => (intro w hSw; (try dsimp only at hSw); go_simp; try with_reducible rfl)
        try simp only [Act.put, List.setIfInBounds_toArray, List.set_cons_zero, List.set_cons_succ]
        refine wpAnyH_take (i := 5) (oi := { dst := some 74, op := Go.Op.build 40 #[], type := 40, pos := "law.go:230", after := #[{ on := 2, ground := Go.Ground.guard }], guard := some (2, false) }) (v := ?vr135) rfl (by kernel_rfl) (by kernel_rfl) (by kernel_rfl) (fun _ _ _ h => h) (Or.inl ⟨by rfl, ?hyr135⟩) (by assumption) ?restr135
        case hyr135 => (intro w hSw; (try dsimp only at hSw); go_simp; try with_reducible rfl)
        try simp only [Act.put, List.setIfInBounds_toArray, List.set_cons_zero, List.set_cons_succ]
        refine wpAnyH_ready (rs := [6]) (by kernel_rfl) (by simp) ?_
        refine AllReadyH.cons (o := { dst := some 75, op := Go.Op.call { callee := Go.Callee.value (Go.Operand.func 21), args := #[Go.Operand.tmp 72, Go.Operand.tmp 73, Go.Operand.tmp 74], argTypes := #[23, 3, 40] }, type := 36, pos := "law.go:230", after := #[{ on := 3, ground := Go.Ground.data }, { on := 4, ground := Go.Ground.data }, { on := 5, ground := Go.Ground.data }, { on := 2, ground := Go.Ground.chain }, { on := 2, ground := Go.Ground.guard }], guard := some (2, false) }) rfl (fun K hK => ?_) ?nilr136
        case nilr136 => exact AllReadyH.nil
        go_simp
        (refine (CSB.out _ (by (repeat (first | (with_reducible exact Below.refl _ _) | (with_reducible refine Below.drew ?_))))).mono ?_)
        rintro e wb ⟨rfl, hFb, hbb⟩
        go_wp2_with fail
        refine hK.out _ _ ?Sr136 (fun hH1 => ?restr136)
        case Sr136 => (trivial)
        clear hK K
        try simp only [Act.put, List.setIfInBounds_toArray, List.set_cons_zero, List.set_cons_succ]
        refine wpAnyH_take (i := 7) (oi := { dst := some 76, op := Go.Op.binOp Go.BinOp.neq 36 (Go.Operand.tmp 75) (Go.Operand.const (Go.Value.int Go.IntKind.i64 1)) 36, type := 4, pos := "law.go:230", after := #[{ on := 6, ground := Go.Ground.data }, { on := 2, ground := Go.Ground.guard }], guard := some (2, false) }) (v := ?vr137) rfl (by kernel_rfl) (by kernel_rfl) (by kernel_rfl) (fun _ _ _ h => h) (Or.inl ⟨by rfl, ?hyr137⟩) (by assumption) ?restr137
        case hyr137 => (intro w hSw; (try dsimp only at hSw); go_simp; try with_reducible rfl)
        try simp only [Act.put, List.setIfInBounds_toArray, List.set_cons_zero, List.set_cons_succ]
        refine wpAnyH_take (i := 8) (oi := { dst := some 77, op := Go.Op.pick (Go.Operand.tmp 71) (Go.Operand.const (Go.Value.bool true)) (Go.Operand.tmp 76), type := 4, pos := "law.go:230", after := #[{ on := 2, ground := Go.Ground.data }, { on := 7, ground := Go.Ground.data }], guard := none }) (v := ?vr138) rfl (by kernel_rfl) (by kernel_rfl) (by kernel_rfl) (fun _ _ _ h => h) (Or.inl ⟨by rfl, ?hyr138⟩) (by assumption) ?restr138
        case hyr138 => (intro w hSw; (try dsimp only at hSw); go_simp; try with_reducible rfl)
        try simp only [Act.put, List.setIfInBounds_toArray, List.set_cons_zero, List.set_cons_succ]
        refine wpAnyH_take (i := 9) (oi := { dst := some 78, op := Go.Op.move (Go.Operand.tmp 77), type := 4, pos := "law.go:230", after := #[{ on := 8, ground := Go.Ground.data }, { on := 6, ground := Go.Ground.chain }], guard := none }) (v := ?vr139) rfl (by kernel_rfl) (by kernel_rfl) (by kernel_rfl) (fun _ _ _ h => h) (Or.inl ⟨by rfl, ?hyr139⟩) (by assumption) ?restr139
        case hyr139 => (intro w hSw; (try dsimp only at hSw); go_simp; try with_reducible rfl)
        try simp only [Act.put, List.setIfInBounds_toArray, List.set_cons_zero, List.set_cons_succ]
        refine wpAnyH_take (i := 10) (oi := { dst := some 79, op := Go.Op.move (Go.Operand.tmp 0), type := 22, pos := "law.go:230", after := #[{ on := 9, ground := Go.Ground.guard }], guard := some (9, false) }) (v := ?vr1310) rfl (by kernel_rfl) (by kernel_rfl) (by kernel_rfl) (fun _ _ _ h => h) (Or.inl ⟨by rfl, ?hyr1310⟩) (by assumption) ?restr1310
        case hyr1310 => (intro w hSw; (try dsimp only at hSw); go_simp; try with_reducible rfl)
        try simp only [Act.put, List.setIfInBounds_toArray, List.set_cons_zero, List.set_cons_succ]
        refine wpAnyH_take (i := 11) (oi := { dst := some 80, op := Go.Op.call { callee := Go.Callee.builtin Go.Builtin.len, args := #[Go.Operand.tmp 79], argTypes := #[22] }, type := 3, pos := "law.go:230", after := #[{ on := 10, ground := Go.Ground.data }, { on := 9, ground := Go.Ground.guard }], guard := some (9, false) }) (v := ?vr1311) rfl (by kernel_rfl) (by kernel_rfl) (by kernel_rfl) (fun _ _ _ h => h) (Or.inl ⟨by rfl, ?hyr1311⟩) (by assumption) ?restr1311
        case hyr1311 => (intro w hSw; (try dsimp only at hSw); go_simp; try with_reducible rfl)
        try simp only [Act.put, List.setIfInBounds_toArray, List.set_cons_zero, List.set_cons_succ]
        refine wpAnyH_take (i := 12) (oi := { dst := some 81, op := Go.Op.binOp Go.BinOp.gtr 3 (Go.Operand.tmp 80) (Go.Operand.const (Go.Value.int Go.IntKind.i64 0)) 3, type := 4, pos := "law.go:230", after := #[{ on := 11, ground := Go.Ground.data }, { on := 9, ground := Go.Ground.guard }], guard := some (9, false) }) (v := (.bool false)) rfl (by kernel_rfl) (by kernel_rfl) (by kernel_rfl) (fun _ _ _ h => h) (Or.inl ⟨by rfl, ?hyr1312⟩) (by assumption) ?restr1312
        case hyr1312 => (intro w hSw; go_simp)
        try simp only [Act.put, List.setIfInBounds_toArray, List.set_cons_zero, List.set_cons_succ]
        refine wpAnyH_take (i := 13) (oi := { dst := some 82, op := Go.Op.move (Go.Operand.tmp 81), type := 4, pos := "law.go:230", after := #[{ on := 12, ground := Go.Ground.data }, { on := 9, ground := Go.Ground.chain }, { on := 9, ground := Go.Ground.guard }], guard := some (9, false) }) (v := ?vr1313) rfl (by kernel_rfl) (by kernel_rfl) (by kernel_rfl) (fun _ _ _ h => h) (Or.inl ⟨by rfl, ?hyr1313⟩) (by assumption) ?restr1313
        case hyr1313 => (intro w hSw; (try dsimp only at hSw); go_simp; try with_reducible rfl)
        try simp only [Act.put, List.setIfInBounds_toArray, List.set_cons_zero, List.set_cons_succ]
        refine wpAnyH_take (i := 14) (oi := { dst := some 83, op := Go.Op.move (Go.Operand.tmp 6), type := 23, pos := "law.go:230", after := #[{ on := 13, ground := Go.Ground.guard }], guard := some (13, true) }) (v := undef) rfl (by kernel_rfl) (by kernel_rfl) (by kernel_rfl) (fun _ _ _ h => h) (Or.inr ⟨by rfl, rfl⟩) (by assumption) ?restr1314
        try simp only [Act.put, List.setIfInBounds_toArray, List.set_cons_zero, List.set_cons_succ]
        refine wpAnyH_take (i := 15) (oi := { dst := some 84, op := Go.Op.move (Go.Operand.tmp 5), type := 3, pos := "law.go:230", after := #[{ on := 13, ground := Go.Ground.guard }], guard := some (13, true) }) (v := undef) rfl (by kernel_rfl) (by kernel_rfl) (by kernel_rfl) (fun _ _ _ h => h) (Or.inr ⟨by rfl, rfl⟩) (by assumption) ?restr1315
        try simp only [Act.put, List.setIfInBounds_toArray, List.set_cons_zero, List.set_cons_succ]
        refine wpAnyH_take (i := 16) (oi := { dst := some 85, op := Go.Op.call { callee := Go.Callee.value (Go.Operand.func 20), args := #[Go.Operand.tmp 83, Go.Operand.tmp 84], argTypes := #[23, 3] }, type := 40, pos := "law.go:230", after := #[{ on := 14, ground := Go.Ground.data }, { on := 15, ground := Go.Ground.data }, { on := 13, ground := Go.Ground.chain }, { on := 13, ground := Go.Ground.guard }], guard := some (13, true) }) (v := undef) rfl (by kernel_rfl) (by kernel_rfl) (by kernel_rfl) (fun _ _ _ h => h) (Or.inr ⟨by rfl, rfl⟩) (by assumption) ?restr1316
        try simp only [Act.put, List.setIfInBounds_toArray, List.set_cons_zero, List.set_cons_succ]
        refine wpAnyH_take (i := 18) (oi := { dst := some 87, op := Go.Op.move (Go.Operand.tmp 0), type := 22, pos := "law.go:230", after := #[{ on := 13, ground := Go.Ground.guard }], guard := some (13, true) }) (v := undef) rfl (by kernel_rfl) (by kernel_rfl) (by kernel_rfl) (fun _ _ _ h => h) (Or.inr ⟨by rfl, rfl⟩) (by assumption) ?restr1318
        try simp only [Act.put, List.setIfInBounds_toArray, List.set_cons_zero, List.set_cons_succ]
        refine wpAnyH_take (i := 19) (oi := { dst := some 88, op := Go.Op.move (Go.Operand.tmp 0), type := 22, pos := "law.go:230", after := #[{ on := 13, ground := Go.Ground.guard }], guard := some (13, true) }) (v := undef) rfl (by kernel_rfl) (by kernel_rfl) (by kernel_rfl) (fun _ _ _ h => h) (Or.inr ⟨by rfl, rfl⟩) (by assumption) ?restr1319
        try simp only [Act.put, List.setIfInBounds_toArray, List.set_cons_zero, List.set_cons_succ]
        refine wpAnyH_take (i := 20) (oi := { dst := some 89, op := Go.Op.call { callee := Go.Callee.builtin Go.Builtin.len, args := #[Go.Operand.tmp 88], argTypes := #[22] }, type := 3, pos := "law.go:230", after := #[{ on := 19, ground := Go.Ground.data }, { on := 13, ground := Go.Ground.guard }], guard := some (13, true) }) (v := undef) rfl (by kernel_rfl) (by kernel_rfl) (by kernel_rfl) (fun _ _ _ h => h) (Or.inr ⟨by rfl, rfl⟩) (by assumption) ?restr1320
        try simp only [Act.put, List.setIfInBounds_toArray, List.set_cons_zero, List.set_cons_succ]
        refine wpAnyH_take (i := 21) (oi := { dst := some 90, op := Go.Op.binOp Go.BinOp.sub 3 (Go.Operand.tmp 89) (Go.Operand.const (Go.Value.int Go.IntKind.i64 1)) 3, type := 3, pos := "law.go:230", after := #[{ on := 20, ground := Go.Ground.data }, { on := 13, ground := Go.Ground.guard }], guard := some (13, true) }) (v := undef) rfl (by kernel_rfl) (by kernel_rfl) (by kernel_rfl) (fun _ _ _ h => h) (Or.inr ⟨by rfl, rfl⟩) (by assumption) ?restr1321
        try simp only [Act.put, List.setIfInBounds_toArray, List.set_cons_zero, List.set_cons_succ]
        refine wpAnyH_take (i := 17) (oi := { dst := some 86, op := Go.Op.field 40 (Go.Operand.tmp 85) 1, type := 3, pos := "law.go:230", after := #[{ on := 16, ground := Go.Ground.data }, { on := 13, ground := Go.Ground.guard }], guard := some (13, true) }) (v := undef) rfl (by kernel_rfl) (by kernel_rfl) (by kernel_rfl) (fun _ _ _ h => h) (Or.inr ⟨by rfl, rfl⟩) (by assumption) ?restr1317
        try simp only [Act.put, List.setIfInBounds_toArray, List.set_cons_zero, List.set_cons_succ]
        refine wpAnyH_take (i := 22) (oi := { dst := some 91, op := Go.Op.indexAddr 22 (Go.Operand.tmp 87) (Go.Operand.tmp 90), type := 0, pos := "law.go:230", after := #[{ on := 18, ground := Go.Ground.data }, { on := 21, ground := Go.Ground.data }, { on := 13, ground := Go.Ground.guard }], guard := some (13, true) }) (v := undef) rfl (by kernel_rfl) (by kernel_rfl) (by kernel_rfl) (fun _ _ _ h => h) (Or.inr ⟨by rfl, rfl⟩) (by assumption) ?restr1322
        try simp only [Act.put, List.setIfInBounds_toArray, List.set_cons_zero, List.set_cons_succ]
        refine wpAnyH_take (i := 23) (oi := { dst := some 92, op := Go.Op.load 3 (Go.Operand.tmp 91), type := 3, pos := "law.go:230", after := #[{ on := 22, ground := Go.Ground.data }, { on := 13, ground := Go.Ground.guard }], guard := some (13, true) }) (v := undef) rfl (by kernel_rfl) (by kernel_rfl) (by kernel_rfl) (fun _ _ _ h => h) (Or.inr ⟨by rfl, rfl⟩) (by assumption) ?restr1323
        try simp only [Act.put, List.setIfInBounds_toArray, List.set_cons_zero, List.set_cons_succ]
        refine wpAnyH_take (i := 24) (oi := { dst := some 93, op := Go.Op.binOp Go.BinOp.neq 3 (Go.Operand.tmp 86) (Go.Operand.tmp 92) 3, type := 4, pos := "law.go:230", after := #[{ on := 17, ground := Go.Ground.data }, { on := 23, ground := Go.Ground.data }, { on := 13, ground := Go.Ground.guard }], guard := some (13, true) }) (v := undef) rfl (by kernel_rfl) (by kernel_rfl) (by kernel_rfl) (fun _ _ _ h => h) (Or.inr ⟨by rfl, rfl⟩) (by assumption) ?restr1324
        try simp only [Act.put, List.setIfInBounds_toArray, List.set_cons_zero, List.set_cons_succ]
        refine wpAnyH_take (i := 25) (oi := { dst := some 94, op := Go.Op.pick (Go.Operand.tmp 82) (Go.Operand.tmp 93) (Go.Operand.const (Go.Value.bool false)), type := 4, pos := "law.go:230", after := #[{ on := 13, ground := Go.Ground.data }, { on := 24, ground := Go.Ground.data }, { on := 9, ground := Go.Ground.guard }], guard := some (9, false) }) (v := ?vr1325) rfl (by kernel_rfl) (by kernel_rfl) (by kernel_rfl) (fun _ _ _ h => h) (Or.inl ⟨by rfl, ?hyr1325⟩) (by assumption) ?restr1325
        case hyr1325 => (intro w hSw; (try dsimp only at hSw); go_simp; try with_reducible rfl)
        try simp only [Act.put, List.setIfInBounds_toArray, List.set_cons_zero, List.set_cons_succ]
        refine wpAnyH_take (i := 26) (oi := { dst := some 95, op := Go.Op.pick (Go.Operand.tmp 78) (Go.Operand.const (Go.Value.bool true)) (Go.Operand.tmp 94), type := 4, pos := "law.go:230", after := #[{ on := 9, ground := Go.Ground.data }, { on := 25, ground := Go.Ground.data }], guard := none }) (v := ?vr1326) rfl (by kernel_rfl) (by kernel_rfl) (by kernel_rfl) (fun _ _ _ h => h) (Or.inl ⟨by rfl, ?hyr1326⟩) (by assumption) ?restr1326
        case hyr1326 => (intro w hSw; (try dsimp only at hSw); go_simp; try with_reducible rfl)
        try simp only [Act.put, List.setIfInBounds_toArray, List.set_cons_zero, List.set_cons_succ]
        refine wpAnyH_done (by kernel_rfl) ?_ _
        have FL := Lib.hid hFb
        have BL := Lib.hid (B5.out.trans (hbb.mono B5.out.size))
        clear hFb hbb CSB F5 B5 lw0
        go_wp2_with fail
        go_loopw [10, 11] (fun iv _ wr => ∃ (j : Nat) (C : List CV) (R : List (CV × Nat)) (Hs : List MK), iv = .int .i64 ((j : Int) - 1) ∧ j ≤ i ∧ j ≤ Hs.length ∧ Hs.length ≤ 1000 ∧ C.length = 4 ∧ R.length ≤ 5000 ∧ (∀ j h, Hs[j]? = some h → h.C = ck k (av z j)) ∧ LP w.heap.size wr w.heap.size C R Hs ∧ Below w.heap.size w wr) (fun iv _ _ => (intOf iv + 1).toNat)
        case atStart => exact ⟨i, C', R', Hs, rfl, Nat.le_refl _, by omega, by omega, HC4.out, hR5, HA.out, FL.out, BL.out⟩
        case round =>
          clear FL BL HA HC4 HC' HCB HCA
          obtain ⟨j, C, R, Hs, rfl, hji, hjH, hH, hC4, hR, hall, hf, hb⟩ := hrel
          have F := Lib.hid hf
          have HB := Lib.hid hb
          have HA := Lib.hid hall
          have HC4 := Lib.hid hC4
          clear hf hb hall hC4
          rcases Nat.eq_zero_or_pos j with h0 | h0
          · subst h0
            have hge : ¬ ((((0 : Nat) : Int) - 1) ≥ 0) := by omega
            go_wp2_with fail
            refine (lset_out F.out (.inr (by rw [HC4.out]; omega)) _ (Below.refl _ _)).mono ?_
            rintro e w8 ⟨rfl, hF8, hb8⟩
            have F8 := Lib.hid hF8
            have B8 := Lib.hid (HB.out.trans (hb8.mono HB.out.size))
            clear hF8 hb8 F HB
            go_wp2_with fail
            refine (lset_out F8.out (.inl (by omega)) _ (Below.refl _ _)).mono ?_
            rintro e w9 ⟨rfl, hF9, hb9⟩
            have B9 := Lib.hid (B8.out.trans (hb9.mono B8.out.size))
            clear hF9 hb9 F8 B8
            go_wp2_with fail
            go_ret
            exact ⟨rfl, B9.out⟩
          · exact absurd (HM0.out) (by omega)
      · obtain ⟨i', hi'⟩ : ∃ i', i = i' + 1 := ⟨i - 1, by omega⟩
        obtain ⟨b, off, rfl, hbl, hcz⟩ := HZ.out.at_ (by omega)
        have KZ := Lib.hid (show ∀ W, Below w.heap.size w W → W.cell? ⟨b, off + i', none⟩ = some (.int .i64 (z i')) from fun W hW => (hW.cell (p := ⟨b, off + i', none⟩) hbl).trans (hcz i' (by omega)))
        have hgt : ((i : Int) > 0) := by omega
        have hgt2 : decide (0 < i) = true := decide_eq_true (by omega)
        have hgt3 : 0 < i := by omega
        have hri : ((i : Int) - 1) = (i' : Int) := by omega
        have hrw : IntKind.i64.wrap ((i : Int) - 1) = (i' : Int) := by rw [IntKind.wrap_i64]; omega
        have hrlt : (i' : Int) < (i : Int) := by omega
        have hca2 : c'.attr = ivT (z i') := by rw [HCA.out, hi']; rfl
        have HCA2 := Lib.hid hca2
        have HCZ := Lib.hid hcz
        have HBL0 := Lib.hid hbl
        have hwr : IntKind.i64.wrap (i' : Int) = (i' : Int) := by rw [IntKind.wrap_i64]; omega
        have FT := fun W => (fieldTA 2 (z i') ⟨#[]⟩ none 0 0 W).1
        have hbl' := Nat.lt_of_lt_of_le hbl B5.out.size
        have hz2 : (z i' != z i') = false := by simp
        clear hcz hbl hca2 hi' hm0
        go_wp2_with fail
        refine wp_region_held_drew (S := fun w1 => w1.cell? ⟨b, off + i', none⟩ = some (.int .i64 (z i'))) (by kernel_rfl) ?Sq (fun hH0 => ?Bq)
        case Sq => (exact KZ.out _ lw0.drew)
        refine wpAnyH_take (i := 0) (oi := { dst := some 69, op := Go.Op.move (Go.Operand.tmp 9), type := 36, pos := "law.go:230", after := #[], guard := none }) (v := ?vq0) rfl (by kernel_rfl) (by kernel_rfl) (by kernel_rfl) (fun _ _ _ h => h) (Or.inl ⟨by rfl, ?hyq0⟩) (by assumption) ?restq0
        case hyq0 => (intro w hSw; (try dsimp only at hSw); go_simp; try with_reducible rfl)
        try simp only [Act.put, List.setIfInBounds_toArray, List.set_cons_zero, List.set_cons_succ]
        refine wpAnyH_take (i := 1) (oi := { dst := some 70, op := Go.Op.binOp Go.BinOp.neq 36 (Go.Operand.tmp 69) (Go.Operand.const (Go.Value.int Go.IntKind.i64 0)) 36, type := 4, pos := "law.go:230", after := #[{ on := 0, ground := Go.Ground.data }], guard := none }) (v := ?vq1) rfl (by kernel_rfl) (by kernel_rfl) (by kernel_rfl) (fun _ _ _ h => h) (Or.inl ⟨by rfl, ?hyq1⟩) (by assumption) ?restq1
        case hyq1 => (intro w hSw; (try dsimp only at hSw); go_simp; try with_reducible rfl)
        try simp only [Act.put, List.setIfInBounds_toArray, List.set_cons_zero, List.set_cons_succ]
        refine wpAnyH_take (i := 2) (oi := { dst := some 71, op := Go.Op.move (Go.Operand.tmp 70), type := 4, pos := "law.go:230", after := #[{ on := 1, ground := Go.Ground.data }], guard := none }) (v := ?vq2) rfl (by kernel_rfl) (by kernel_rfl) (by kernel_rfl) (fun _ _ _ h => h) (Or.inl ⟨by rfl, ?hyq2⟩) (by assumption) ?restq2
        case hyq2 => (intro w hSw; (try dsimp only at hSw); go_simp; try with_reducible rfl)
        try simp only [Act.put, List.setIfInBounds_toArray, List.set_cons_zero, List.set_cons_succ]
        refine wpAnyH_take (i := 3) (oi := { dst := some 72, op := Go.Op.move (Go.Operand.tmp 6), type := 23, pos := "law.go:230", after := #[{ on := 2, ground := Go.Ground.guard }], guard := some (2, false) }) (v := ?vq3) rfl (by kernel_rfl) (by kernel_rfl) (by kernel_rfl) (fun _ _ _ h => h) (Or.inl ⟨by rfl, ?hyq3⟩) (by assumption) ?restq3
        case hyq3 => (intro w hSw; (try dsimp only at hSw); go_simp; try with_reducible rfl)
        try simp only [Act.put, List.setIfInBounds_toArray, List.set_cons_zero, List.set_cons_succ]
        refine wpAnyH_take (i := 4) (oi := { dst := some 73, op := Go.Op.move (Go.Operand.tmp 5), type := 3, pos := "law.go:230", after := #[{ on := 2, ground := Go.Ground.guard }], guard := some (2, false) }) (v := ?vq4) rfl (by kernel_rfl) (by kernel_rfl) (by kernel_rfl) (fun _ _ _ h => h) (Or.inl ⟨by rfl, ?hyq4⟩) (by assumption) ?restq4
        case hyq4 => (intro w hSw; (try dsimp only at hSw); go_simp; try with_reducible rfl)
        try simp only [Act.put, List.setIfInBounds_toArray, List.set_cons_zero, List.set_cons_succ]
        refine wpAnyH_take (i := 5) (oi := { dst := some 74, op := Go.Op.build 40 #[], type := 40, pos := "law.go:230", after := #[{ on := 2, ground := Go.Ground.guard }], guard := some (2, false) }) (v := ?vq5) rfl (by kernel_rfl) (by kernel_rfl) (by kernel_rfl) (fun _ _ _ h => h) (Or.inl ⟨by rfl, ?hyq5⟩) (by assumption) ?restq5
        case hyq5 => (intro w hSw; (try dsimp only at hSw); go_simp; try with_reducible rfl)
        try simp only [Act.put, List.setIfInBounds_toArray, List.set_cons_zero, List.set_cons_succ]
        refine wpAnyH_ready (rs := [6]) (by kernel_rfl) (by simp) ?_
        refine AllReadyH.cons (o := { dst := some 75, op := Go.Op.call { callee := Go.Callee.value (Go.Operand.func 21), args := #[Go.Operand.tmp 72, Go.Operand.tmp 73, Go.Operand.tmp 74], argTypes := #[23, 3, 40] }, type := 36, pos := "law.go:230", after := #[{ on := 3, ground := Go.Ground.data }, { on := 4, ground := Go.Ground.data }, { on := 5, ground := Go.Ground.data }, { on := 2, ground := Go.Ground.chain }, { on := 2, ground := Go.Ground.guard }], guard := some (2, false) }) rfl (fun K hK => ?_) ?nilq6
        case nilq6 => exact AllReadyH.nil
        go_simp
        (refine (CSB.out _ (by (repeat (first | (with_reducible exact Below.refl _ _) | (with_reducible refine Below.drew ?_))))).mono ?_)
        rintro e wb ⟨rfl, hFb, hbb⟩
        have lwb := lw0.trans (hbb.mono lw0.size)
        go_wp2_with fail
        refine hK.out _ _ ?Sq6 (fun hH1 => ?restq6)
        case Sq6 => (exact KZ.out _ lwb)
        clear hK K
        try simp only [Act.put, List.setIfInBounds_toArray, List.set_cons_zero, List.set_cons_succ]
        refine wpAnyH_take (i := 7) (oi := { dst := some 76, op := Go.Op.binOp Go.BinOp.neq 36 (Go.Operand.tmp 75) (Go.Operand.const (Go.Value.int Go.IntKind.i64 1)) 36, type := 4, pos := "law.go:230", after := #[{ on := 6, ground := Go.Ground.data }, { on := 2, ground := Go.Ground.guard }], guard := some (2, false) }) (v := ?vq7) rfl (by kernel_rfl) (by kernel_rfl) (by kernel_rfl) (fun _ _ _ h => h) (Or.inl ⟨by rfl, ?hyq7⟩) (by assumption) ?restq7
        case hyq7 => (intro w hSw; (try dsimp only at hSw); go_simp; try with_reducible rfl)
        try simp only [Act.put, List.setIfInBounds_toArray, List.set_cons_zero, List.set_cons_succ]
        refine wpAnyH_take (i := 8) (oi := { dst := some 77, op := Go.Op.pick (Go.Operand.tmp 71) (Go.Operand.const (Go.Value.bool true)) (Go.Operand.tmp 76), type := 4, pos := "law.go:230", after := #[{ on := 2, ground := Go.Ground.data }, { on := 7, ground := Go.Ground.data }], guard := none }) (v := ?vq8) rfl (by kernel_rfl) (by kernel_rfl) (by kernel_rfl) (fun _ _ _ h => h) (Or.inl ⟨by rfl, ?hyq8⟩) (by assumption) ?restq8
        case hyq8 => (intro w hSw; (try dsimp only at hSw); go_simp; try with_reducible rfl)
        try simp only [Act.put, List.setIfInBounds_toArray, List.set_cons_zero, List.set_cons_succ]
        refine wpAnyH_take (i := 9) (oi := { dst := some 78, op := Go.Op.move (Go.Operand.tmp 77), type := 4, pos := "law.go:230", after := #[{ on := 8, ground := Go.Ground.data }, { on := 6, ground := Go.Ground.chain }], guard := none }) (v := ?vq9) rfl (by kernel_rfl) (by kernel_rfl) (by kernel_rfl) (fun _ _ _ h => h) (Or.inl ⟨by rfl, ?hyq9⟩) (by assumption) ?restq9
        case hyq9 => (intro w hSw; (try dsimp only at hSw); go_simp; try with_reducible rfl)
        try simp only [Act.put, List.setIfInBounds_toArray, List.set_cons_zero, List.set_cons_succ]
        refine wpAnyH_take (i := 10) (oi := { dst := some 79, op := Go.Op.move (Go.Operand.tmp 0), type := 22, pos := "law.go:230", after := #[{ on := 9, ground := Go.Ground.guard }], guard := some (9, false) }) (v := ?vq10) rfl (by kernel_rfl) (by kernel_rfl) (by kernel_rfl) (fun _ _ _ h => h) (Or.inl ⟨by rfl, ?hyq10⟩) (by assumption) ?restq10
        case hyq10 => (intro w hSw; (try dsimp only at hSw); go_simp; try with_reducible rfl)
        try simp only [Act.put, List.setIfInBounds_toArray, List.set_cons_zero, List.set_cons_succ]
        refine wpAnyH_take (i := 11) (oi := { dst := some 80, op := Go.Op.call { callee := Go.Callee.builtin Go.Builtin.len, args := #[Go.Operand.tmp 79], argTypes := #[22] }, type := 3, pos := "law.go:230", after := #[{ on := 10, ground := Go.Ground.data }, { on := 9, ground := Go.Ground.guard }], guard := some (9, false) }) (v := ?vq11) rfl (by kernel_rfl) (by kernel_rfl) (by kernel_rfl) (fun _ _ _ h => h) (Or.inl ⟨by rfl, ?hyq11⟩) (by assumption) ?restq11
        case hyq11 => (intro w hSw; (try dsimp only at hSw); go_simp; try with_reducible rfl)
        try simp only [Act.put, List.setIfInBounds_toArray, List.set_cons_zero, List.set_cons_succ]
        refine wpAnyH_take (i := 12) (oi := { dst := some 81, op := Go.Op.binOp Go.BinOp.gtr 3 (Go.Operand.tmp 80) (Go.Operand.const (Go.Value.int Go.IntKind.i64 0)) 3, type := 4, pos := "law.go:230", after := #[{ on := 11, ground := Go.Ground.data }, { on := 9, ground := Go.Ground.guard }], guard := some (9, false) }) (v := (.bool true)) rfl (by kernel_rfl) (by kernel_rfl) (by kernel_rfl) (fun _ _ _ h => h) (Or.inl ⟨by rfl, ?hyq12⟩) (by assumption) ?restq12
        case hyq12 => (intro w hSw; go_simp)
        try simp only [Act.put, List.setIfInBounds_toArray, List.set_cons_zero, List.set_cons_succ]
        refine wpAnyH_take (i := 13) (oi := { dst := some 82, op := Go.Op.move (Go.Operand.tmp 81), type := 4, pos := "law.go:230", after := #[{ on := 12, ground := Go.Ground.data }, { on := 9, ground := Go.Ground.chain }, { on := 9, ground := Go.Ground.guard }], guard := some (9, false) }) (v := ?vq13) rfl (by kernel_rfl) (by kernel_rfl) (by kernel_rfl) (fun _ _ _ h => h) (Or.inl ⟨by rfl, ?hyq13⟩) (by assumption) ?restq13
        case hyq13 => (intro w hSw; (try dsimp only at hSw); go_simp; try with_reducible rfl)
        try simp only [Act.put, List.setIfInBounds_toArray, List.set_cons_zero, List.set_cons_succ]
        refine wpAnyH_take (i := 14) (oi := { dst := some 83, op := Go.Op.move (Go.Operand.tmp 6), type := 23, pos := "law.go:230", after := #[{ on := 13, ground := Go.Ground.guard }], guard := some (13, true) }) (v := ?vq14) rfl (by kernel_rfl) (by kernel_rfl) (by kernel_rfl) (fun _ _ _ h => h) (Or.inl ⟨by rfl, ?hyq14⟩) (by assumption) ?restq14
        case hyq14 => (intro w hSw; (try dsimp only at hSw); go_simp; try with_reducible rfl)
        try simp only [Act.put, List.setIfInBounds_toArray, List.set_cons_zero, List.set_cons_succ]
        refine wpAnyH_take (i := 15) (oi := { dst := some 84, op := Go.Op.move (Go.Operand.tmp 5), type := 3, pos := "law.go:230", after := #[{ on := 13, ground := Go.Ground.guard }], guard := some (13, true) }) (v := ?vq15) rfl (by kernel_rfl) (by kernel_rfl) (by kernel_rfl) (fun _ _ _ h => h) (Or.inl ⟨by rfl, ?hyq15⟩) (by assumption) ?restq15
        case hyq15 => (intro w hSw; (try dsimp only at hSw); go_simp; try with_reducible rfl)
        try simp only [Act.put, List.setIfInBounds_toArray, List.set_cons_zero, List.set_cons_succ]
        refine wpAnyH_take (i := 18) (oi := { dst := some 87, op := Go.Op.move (Go.Operand.tmp 0), type := 22, pos := "law.go:230", after := #[{ on := 13, ground := Go.Ground.guard }], guard := some (13, true) }) (v := ?vq18) rfl (by kernel_rfl) (by kernel_rfl) (by kernel_rfl) (fun _ _ _ h => h) (Or.inl ⟨by rfl, ?hyq18⟩) (by assumption) ?restq18
        case hyq18 => (intro w hSw; (try dsimp only at hSw); go_simp; try with_reducible rfl)
        try simp only [Act.put, List.setIfInBounds_toArray, List.set_cons_zero, List.set_cons_succ]
        refine wpAnyH_take (i := 19) (oi := { dst := some 88, op := Go.Op.move (Go.Operand.tmp 0), type := 22, pos := "law.go:230", after := #[{ on := 13, ground := Go.Ground.guard }], guard := some (13, true) }) (v := ?vq19) rfl (by kernel_rfl) (by kernel_rfl) (by kernel_rfl) (fun _ _ _ h => h) (Or.inl ⟨by rfl, ?hyq19⟩) (by assumption) ?restq19
        case hyq19 => (intro w hSw; (try dsimp only at hSw); go_simp; try with_reducible rfl)
        try simp only [Act.put, List.setIfInBounds_toArray, List.set_cons_zero, List.set_cons_succ]
        refine wpAnyH_take (i := 20) (oi := { dst := some 89, op := Go.Op.call { callee := Go.Callee.builtin Go.Builtin.len, args := #[Go.Operand.tmp 88], argTypes := #[22] }, type := 3, pos := "law.go:230", after := #[{ on := 19, ground := Go.Ground.data }, { on := 13, ground := Go.Ground.guard }], guard := some (13, true) }) (v := ?vq20) rfl (by kernel_rfl) (by kernel_rfl) (by kernel_rfl) (fun _ _ _ h => h) (Or.inl ⟨by rfl, ?hyq20⟩) (by assumption) ?restq20
        case hyq20 => (intro w hSw; (try dsimp only at hSw); go_simp; try with_reducible rfl)
        try simp only [Act.put, List.setIfInBounds_toArray, List.set_cons_zero, List.set_cons_succ]
        refine wpAnyH_take (i := 21) (oi := { dst := some 90, op := Go.Op.binOp Go.BinOp.sub 3 (Go.Operand.tmp 89) (Go.Operand.const (Go.Value.int Go.IntKind.i64 1)) 3, type := 3, pos := "law.go:230", after := #[{ on := 20, ground := Go.Ground.data }, { on := 13, ground := Go.Ground.guard }], guard := some (13, true) }) (v := (.int .i64 (i' : Int))) rfl (by kernel_rfl) (by kernel_rfl) (by kernel_rfl) (fun _ _ _ h => h) (Or.inl ⟨by rfl, ?hyq21⟩) (by assumption) ?restq21
        case hyq21 => (intro w hSw; go_simp <;> exact hwr)
        try simp only [Act.put, List.setIfInBounds_toArray, List.set_cons_zero, List.set_cons_succ]
        refine wpAnyH_take (i := 22) (oi := { dst := some 91, op := Go.Op.indexAddr 22 (Go.Operand.tmp 87) (Go.Operand.tmp 90), type := 0, pos := "law.go:230", after := #[{ on := 18, ground := Go.Ground.data }, { on := 21, ground := Go.Ground.data }, { on := 13, ground := Go.Ground.guard }], guard := some (13, true) }) (v := (.pointer (some ⟨b, off + i', none⟩))) rfl (by kernel_rfl) (by kernel_rfl) (by kernel_rfl) (fun _ _ _ h => h) (Or.inl ⟨by rfl, ?hyq22⟩) (by assumption) ?restq22
        case hyq22 => (intro w hSw; go_simp)
        try simp only [Act.put, List.setIfInBounds_toArray, List.set_cons_zero, List.set_cons_succ]
        refine wpAnyH_take (i := 23) (oi := { dst := some 92, op := Go.Op.load 3 (Go.Operand.tmp 91), type := 3, pos := "law.go:230", after := #[{ on := 22, ground := Go.Ground.data }, { on := 13, ground := Go.Ground.guard }], guard := some (13, true) }) (v := ?vq23) rfl (by kernel_rfl) (by kernel_rfl) (by kernel_rfl) (fun _ _ _ h => h) (Or.inl ⟨by rfl, ?hyq23⟩) (by assumption) ?restq23
        case hyq23 => (intro w hSw; (try dsimp only at hSw); go_simp; try with_reducible rfl)
        try simp only [Act.put, List.setIfInBounds_toArray, List.set_cons_zero, List.set_cons_succ]
        refine wpAnyH_ready (rs := [16]) (by kernel_rfl) (by simp) ?_
        refine AllReadyH.cons (o := { dst := some 85, op := Go.Op.call { callee := Go.Callee.value (Go.Operand.func 20), args := #[Go.Operand.tmp 83, Go.Operand.tmp 84], argTypes := #[23, 3] }, type := 40, pos := "law.go:230", after := #[{ on := 14, ground := Go.Ground.data }, { on := 15, ground := Go.Ground.data }, { on := 13, ground := Go.Ground.chain }, { on := 13, ground := Go.Ground.guard }], guard := some (13, true) }) rfl (fun K hK => ?_) ?nilq16
        case nilq16 => exact AllReadyH.nil
        go_simp
        (refine (lattr hFb HC'.out _ (by (repeat (first | (with_reducible exact Below.refl _ _) | (with_reducible refine Below.drew ?_))))).mono ?_)
        rintro e wc ⟨he, hFc, hbc⟩
        have lwc := lwb.trans (hbc.mono lwb.size)
        rw [HCA2.out] at he
        subst he
        simp only [ivT]
        go_wp2_with fail
        refine hK.out _ _ ?Sq16 (fun hH2 => ?restq16)
        case Sq16 => (exact KZ.out _ lwc)
        clear hK K
        try simp only [Act.put, List.setIfInBounds_toArray, List.set_cons_zero, List.set_cons_succ]
        refine wpAnyH_take (i := 17) (oi := { dst := some 86, op := Go.Op.field 40 (Go.Operand.tmp 85) 1, type := 3, pos := "law.go:230", after := #[{ on := 16, ground := Go.Ground.data }, { on := 13, ground := Go.Ground.guard }], guard := some (13, true) }) (v := ?vq17) rfl (by kernel_rfl) (by kernel_rfl) (by kernel_rfl) (fun _ _ _ h => h) (Or.inl ⟨by rfl, ?hyq17⟩) (by assumption) ?restq17
        case hyq17 => (intro w hSw; (try dsimp only at hSw); go_simp; try with_reducible rfl)
        try simp only [Act.put, List.setIfInBounds_toArray, List.set_cons_zero, List.set_cons_succ]
        refine wpAnyH_take (i := 24) (oi := { dst := some 93, op := Go.Op.binOp Go.BinOp.neq 3 (Go.Operand.tmp 86) (Go.Operand.tmp 92) 3, type := 4, pos := "law.go:230", after := #[{ on := 17, ground := Go.Ground.data }, { on := 23, ground := Go.Ground.data }, { on := 13, ground := Go.Ground.guard }], guard := some (13, true) }) (v := ?vq24) rfl (by kernel_rfl) (by kernel_rfl) (by kernel_rfl) (fun _ _ _ h => h) (Or.inl ⟨by rfl, ?hyq24⟩) (by assumption) ?restq24
        case hyq24 => (intro w hSw; (try dsimp only at hSw); go_simp; try with_reducible rfl)
        try simp only [Act.put, List.setIfInBounds_toArray, List.set_cons_zero, List.set_cons_succ]
        refine wpAnyH_take (i := 25) (oi := { dst := some 94, op := Go.Op.pick (Go.Operand.tmp 82) (Go.Operand.tmp 93) (Go.Operand.const (Go.Value.bool false)), type := 4, pos := "law.go:230", after := #[{ on := 13, ground := Go.Ground.data }, { on := 24, ground := Go.Ground.data }, { on := 9, ground := Go.Ground.guard }], guard := some (9, false) }) (v := ?vq25) rfl (by kernel_rfl) (by kernel_rfl) (by kernel_rfl) (fun _ _ _ h => h) (Or.inl ⟨by rfl, ?hyq25⟩) (by assumption) ?restq25
        case hyq25 => (intro w hSw; (try dsimp only at hSw); go_simp; try with_reducible rfl)
        try simp only [Act.put, List.setIfInBounds_toArray, List.set_cons_zero, List.set_cons_succ]
        refine wpAnyH_take (i := 26) (oi := { dst := some 95, op := Go.Op.pick (Go.Operand.tmp 78) (Go.Operand.const (Go.Value.bool true)) (Go.Operand.tmp 94), type := 4, pos := "law.go:230", after := #[{ on := 9, ground := Go.Ground.data }, { on := 25, ground := Go.Ground.data }], guard := none }) (v := ?vq26) rfl (by kernel_rfl) (by kernel_rfl) (by kernel_rfl) (fun _ _ _ h => h) (Or.inl ⟨by rfl, ?hyq26⟩) (by assumption) ?restq26
        case hyq26 => (intro w hSw; (try dsimp only at hSw); go_simp; try with_reducible rfl)
        try simp only [Act.put, List.setIfInBounds_toArray, List.set_cons_zero, List.set_cons_succ]
        refine wpAnyH_done (by kernel_rfl) ?_ _
        all_goals
          have FL := Lib.hid hFc
          have BL := Lib.hid (lwc)
          clear hFb hFc hbb hbc lwb lwc CSB F5 B5 lw0
          go_wp2_with fail
          go_loopw [10, 11] (fun iv _ wr => ∃ (j : Nat) (C : List CV) (R : List (CV × Nat)) (Hs : List MK), iv = .int .i64 ((j : Int) - 1) ∧ j ≤ i ∧ j ≤ Hs.length ∧ Hs.length ≤ 1000 ∧ C.length = 4 ∧ R.length ≤ 5000 ∧ (∀ j h, Hs[j]? = some h → h.C = ck k (av z j)) ∧ LP w.heap.size wr w.heap.size C R Hs ∧ Below w.heap.size w wr) (fun iv _ _ => (intOf iv + 1).toNat)
          case atStart => exact ⟨i, C', R', Hs, by rw [hri], Nat.le_refl _, by omega, by omega, HC4.out, hR5, HA.out, FL.out, BL.out⟩
          case round =>
            clear FL BL HA HC4 HC' HCB HCA
            obtain ⟨j, C, R, Hs, rfl, hji, hjH, hH, hC4, hR, hall, hf, hb⟩ := hrel
            have F := Lib.hid hf
            have HB := Lib.hid hb
            have HA := Lib.hid hall
            have HC4 := Lib.hid hC4
            clear hf hb hall hC4
            rcases Nat.eq_zero_or_pos j with h0 | h0
            · subst h0
              have hge : ¬ ((((0 : Nat) : Int) - 1) ≥ 0) := by omega
              go_wp2_with fail
              refine (lset_out F.out (.inr (by rw [HC4.out]; omega)) _ (Below.refl _ _)).mono ?_
              rintro e w8 ⟨rfl, hF8, hb8⟩
              have F8 := Lib.hid hF8
              have B8 := Lib.hid (HB.out.trans (hb8.mono HB.out.size))
              clear hF8 hb8 F HB
              go_wp2_with fail
              refine (lset_out F8.out (.inl (by omega)) _ (Below.refl _ _)).mono ?_
              rintro e w9 ⟨rfl, hF9, hb9⟩
              have B9 := Lib.hid (B8.out.trans (hb9.mono B8.out.size))
              clear hF9 hb9 F8 B8
              go_wp2_with fail
              go_ret
              exact ⟨rfl, B9.out⟩
            · obtain ⟨q, rfl⟩ : ∃ q, j = q + 1 := ⟨j - 1, by omega⟩
              have ek : (((q + 1 : Nat) : Int) - 1) = (q : Int) := by omega
              rw [ek]
              obtain ⟨g, hg⟩ : ∃ g, Hs[q]? = some g := ⟨_, List.getElem?_eq_getElem (by omega)⟩
              have hgC := HA.out q g hg
              have HK := Lib.hid hg
              have hge : (q : Int) ≥ 0 := by omega
              have CU := Lib.hid (lundo F.out (by omega) (by have := HC4.out; omega) (by omega) hg _ (Below.refl _ _))
              have hgr := (F.out.hp q g hg).r
              rw [hgC] at CU
              clear hg ek hgC
              go_wp2_with fail
              refine CU.out.mono ?_
              rintro e w8 ⟨rfl, hF8, hb8⟩
              have F8 := Lib.hid hF8
              have B8 := Lib.hid (HB.out.trans hb8)
              clear hF8 hb8 F HB CU
              go_wp2_with fail
              refine (lvar9_any _ _).mono ?_
              rintro e w9 ⟨rfl, h9⟩
              have F9 := Lib.hid (F8.out.below h9)
              have B9 := Lib.hid (B8.out.trans (h9.mono B8.out.size))
              clear h9 F8 B8
              have FT1 := fun W => (fieldTA 1 (k : Int) ⟨#[]⟩ none 0 0 W).2
              go_wp2_with fail
              refine (sres_var F9.out.sm (ck_at hk4 _) rfl).mono ?_
              rintro e wA ⟨rfl, hA⟩
              have FA := Lib.hid (F9.out.below hA)
              have BA := Lib.hid (B9.out.trans (hA.mono B9.out.size))
              clear hA F9 B9
              have CAT := Lib.hid (lattr FA.out (ck_at hk4 (av z q)) _ (Below.refl _ _))
              rcases Nat.eq_zero_or_pos q with hq0 | hq0
              · have HQ0 := Lib.hid hq0
                have hgt : ¬ ((q : Int) > 0) := by omega
                have hgt3 : ¬ (0 < q) := by omega
                have hgt4 : decide (0 < q) = false := decide_eq_false (by omega)
                have hqz : ((q : Int) == 0) = true := beq_iff_eq.mpr (by omega)
                have hav : av z q = TV.zero := by rw [hq0]; rfl
                rw [hav] at CAT
                clear hq0
                go_wp2_with fail
                refine CAT.out.mono ?_
                rintro e wB ⟨rfl, hFB, hbB⟩
                have BB := Lib.hid (BA.out.trans (hbB.mono BA.out.size))
                have hbx := heap_alloc_new wB (Obj.cells #[.int .i64 0, .int .i64 0, .string ⟨#[]⟩, .slice none 0 0] 40)
                obtain ⟨x0, x1, x2, x3⟩ := box4 hbx
                have hxl := heap_lt hbx
                have FB := Lib.hid (show LP w.heap.size _ w.heap.size (ck k (av z q)) (R.take g.r) (Hs.take (q + 1)) from by rw [hav]; exact hFB)
                simp only [TV.zero]
                clear hFB hbB CAT hbx hav
                go_wp2_with fail
                go_quiet (fail)
                go_wp2_with fail
                go_roundw
                case rel => exact ⟨q, ck k (av z q), R.take g.r, Hs.take (q + 1), by first | rfl | (congr 1; omega), by omega, by simp; omega, by simp; omega, ck_len _ _, by simp; omega, (fun x h hx => HA.out x h (getElem?_of_take hx)), FB.out.below (bel_drewN (belS (Below.refl _ _) _) _), BB.out.trans ((bel_drewN (belS (Below.refl _ _) _) _).mono BB.out.size)⟩
                case measure => simp only [intOf]; omega
              · obtain ⟨r, hr⟩ : ∃ r, q = r + 1 := ⟨q - 1, by omega⟩
                have HR := Lib.hid hr
                have hbl := HBL0.out
                have hcz := HCZ.out
                have KZ := Lib.hid (show ∀ W, Below w.heap.size w W → W.cell? ⟨b, off + r, none⟩ = some (.int .i64 (z r)) from fun W hW => (hW.cell (p := ⟨b, off + r, none⟩) hbl).trans (hcz r (by omega)))
                have HBL := Lib.hid hbl
                have hri : ((q : Int) - 1) = (r : Int) := by omega
                have hrlt : (r : Int) < (i : Int) := by omega
                have hgt : ((q : Int) > 0) := by omega
                have hgt3 : 0 < q := by omega
                have hgt4 : decide (0 < q) = true := decide_eq_true (by omega)
                have hqz : ((q : Int) == 0) = false := beq_eq_false_iff_ne.mpr (by omega)
                have hav : av z q = ivT (z r) := by rw [hr]; rfl
                rw [hav] at CAT
                have hz2 : (z r != z r) = false := by simp
                clear hcz hbl hr
                go_wp2_with fail
                refine CAT.out.mono ?_
                rintro e wB ⟨rfl, hFB, hbB⟩
                have FB := Lib.hid (show LP w.heap.size _ w.heap.size (ck k (av z q)) (R.take g.r) (Hs.take (q + 1)) from by rw [hav]; exact hFB)
                have BB := Lib.hid (BA.out.trans (hbB.mono BA.out.size))
                have hbx := heap_alloc_new wB (Obj.cells #[.int .i64 2, .int .i64 (z r), .string ⟨#[]⟩, .slice none 0 0] 40)
                obtain ⟨x0, x1, x2, x3⟩ := box4 hbx
                have hxl := heap_lt hbx
                have kz := KZ.out _ (BB.out.trans ((belS (Below.refl wB.heap.size wB) (Obj.cells #[.int .i64 2, .int .i64 (z r), .string ⟨#[]⟩, .slice none 0 0] 40)).mono BB.out.size))
                have kl := Nat.lt_of_lt_of_le HBL.out BB.out.size
                simp only [ivT]
                clear hFB hbB CAT hbx hav
                go_wp2_with fail
                go_quiet (fail)
                go_wp2_with fail
                go_roundw
                case rel => exact ⟨q, ck k (av z q), R.take g.r, Hs.take (q + 1), by first | rfl | (congr 1; omega), by omega, by simp; omega, by simp; omega, ck_len _ _, by simp; omega, (fun x h hx => HA.out x h (getElem?_of_take hx)), FB.out.below (bel_drewN (belS (Below.refl _ _) _) _), BB.out.trans ((bel_drewN (belS (Below.refl _ _) _) _).mono BB.out.size)⟩
                case measure => simp only [intOf]; omega
end Go.Proofs.Ytgoedlbdnmhppaa
