/- The reference's store: Mark, Undo. The reference's store: Set, Fresh. The reference's store: Fresh. Both stores side by side: plain lemmas on what the marks bring back; where a law stands. Both stores side by side: their calls in pairs. Variables of any number: known, walk, Resolve; Unify of one that the store has not. The walk through the law StoreFresh. -/
import Derived.Test.YtgoedlbdnmhppaaSb1
import Derived.Deep.AppendLies
import Derived.Test.YtgoedlbdnmhppaaCmp
import Derived.Test.YtgoedlbdnmhppaaSt4
import Derived.OwnWalk
import Derived.Deep.RegionHeld3
namespace Go.Proofs.Ytgoedlbdnmhppaa
open Go.RowKit

theorem PV.one (p : PV) : ∀ u ∈ p.vals, u.oneCell' = true := by
  intro u hu
  simp only [PV.vals, List.mem_cons, List.not_mem_nil, or_false] at hu
  rcases hu with rfl | rfl | rfl <;> rfl
/-- A new row of marks, its box written. -/
theorem RM.remark {w w2 W : World} {B rb : Nat} {p : PV} {Qs : List PV} {m0 : Value} {g cap : Nat} (hge : B ≤ rb) (hb : w2.heap[rb]? = some (.cells #[.int .i64 (p.n : Int), .slice p.LA p.ln p.lc, .slice p.AA p.am p.ac, m0] 35 (0, 0)))
    (hown : w2.ownsRow B 32 3 (.slice (some ⟨g, 0, none⟩) Qs.length cap) Qs.length (Qs.flatMap PV.vals)) (hF : RF B w w2) (hW : W = w2.setCell ⟨rb, 3, none⟩ (.slice (some ⟨g, 0, none⟩) Qs.length cap)) : RM W B rb p Qs ∧ RF B w W := by
  have h2 := blk_set hb 3 (.slice (some ⟨g, 0, none⟩) Qs.length cap)
  rw [← hW] at h2
  refine ⟨⟨⟨some ⟨g, 0, none⟩, cap, by simpa using h2, own_keep hown fun k hk => ?_⟩, hge⟩, hF.trans ⟨?_, fun k o hk hn => ?_⟩⟩
  · obtain ⟨cs, f, hh⟩ := Go.Lib.ownsRow_kind hown k hk
    rw [hW]
    refine Below.heap_setCell _ _ _ k ?_
    rintro rfl
    rw [hb] at hh
    injection hh with hh
    injection hh with _ hh
    exact absurd hh (by decide)
  · rw [hW]; exact (Below.refl _ _).setCell (p := ⟨rb, 3, none⟩) hge _
  · rw [hW]
    refine (Below.heap_setCell _ _ _ k ?_).trans hk
    rintro rfl
    rw [hb] at hk
    injection hk with hk
    exact (hn _ _ _ hk.symm).1 rfl
/-- An append onto the marks leaves all else alone. -/
theorem RF.grown {w w1 w2 : World} {B k n : Nat} {v : Value} {xs : List Value} (hB : B ≤ w.heap.size) (h1 : Below w.heap.size w w1) (hx : w1.ownsRow B 32 k v n xs) (hg : w1.grownBy w2 v.ownBlock) : RF B w w2 :=
  ⟨(h1.mono hB).grown hg (Nat.le_trans hB h1.size) fun k hk => (hx.lt k hk).1, fun k o hk hn => by
    have hk1 := (h1.block k (heap_lt hk)).trans hk
    refine (hg.block k (heap_lt hk1) fun h => ?_).trans hk1
    obtain ⟨cs', f', hh'⟩ := Go.Lib.ownsRow_kind hx k h.symm
    rw [hk1] at hh'
    injection hh' with hh'
    exact (hn _ _ _ hh').2 rfl⟩
theorem keepBoxR {w1 w2 : World} {B k n rb : Nat} {v : Value} {xs : List Value} {cs : Array Value} {f : Nat × Nat} (hb : w1.heap[rb]? = some (.cells cs 35 f)) (hx : w1.ownsRow B 32 k v n xs) (hg : w1.grownBy w2 v.ownBlock) : w2.heap[rb]? = some (.cells cs 35 f) := by
  refine (hg.block rb (heap_lt hb) fun h => ?_).trans hb
  obtain ⟨cs', f', hh'⟩ := Go.Lib.ownsRow_kind hx rb h.symm
  rw [hb] at hh'
  injection hh' with hh'
  injection hh' with _ hh'
  exact absurd hh' (by decide)
set_option maxRecDepth 100000 in
set_option maxHeartbeats 4000000 in
theorem rmark9_any {w : World} {B rb : Nat} {p : PV} {Ps : List PV} (h : RM w B rb p Ps) (hM : Ps.length ≤ 1000000) :
    Calls Try.prog 11 #[.pointer (some ⟨rb, 0, none⟩)] w fun e w' => e = .returned (.int .i64 (Ps.length : Int)) ∧ RM w' B rb p (Ps ++ [p]) ∧ RF B w w' := by
  obtain ⟨MA, mc, b0, b1, b2, b3, bf, hl, hb, h1⟩ := h.box
  have HB := Lib.hid hb
  have HGE := Lib.hid h.ge
  have H1 := Lib.hid h1
  have hBs : B ≤ w.heap.size := by have := h.ge; omega
  obtain ⟨item, ii1, ii2, ii3, ii4⟩ := elState.hi
  clear hb h h1
  go_enter Try.func11, Try.ntmps11
  go_wp2_with fail
  go_region_law (refine step_append_lies _ rfl _ _ _ rfl B 32 item (.agg #[.int .i64 0, .slice none 0 0, .slice none 0 0]) 3 56 Try.underlying33 ii1 ii2 ii3 ii4 rfl (by omega) _ Ps.length _ rfl (own_below H1.out (by first | exact ((Below.refl _ _).drew).alloc (Nat.le_refl _) _ | exact ((Below.refl _ _).alloc (Nat.le_refl _) _).drew | exact (Below.refl _ _).alloc (Nat.le_refl _) _)) ⟨w.heap.size, 0, none⟩ 1 1 [.int .i64 (p.n : Int), .slice p.LA p.ln p.lc, .slice p.AA p.am p.ac] rfl rfl (World.news_of_block (heap_alloc_new _ _)) (by intro u hu; simp only [List.mem_cons, List.not_mem_nil, or_false] at hu; rcases hu with rfl | rfl | rfl <;> rfl) (by omega) (by unfold maxLen; omega) (by omega) (by simp; omega) _ rfl ?_; intro g1 cap1 w10 hown1 hg1 hat1 hlt1; have Z10 := keepBoxR (((by first | exact ((Below.refl _ _).drew).alloc (Nat.le_refl _) _ | exact ((Below.refl _ _).alloc (Nat.le_refl _) _).drew | exact (Below.refl _ _).alloc (Nat.le_refl _) _ : Below w.heap.size w _).block _ hl).trans HB.out) (own_below H1.out (by first | exact ((Below.refl _ _).drew).alloc (Nat.le_refl _) _ | exact ((Below.refl _ _).alloc (Nat.le_refl _) _).drew | exact (Below.refl _ _).alloc (Nat.le_refl _) _)) hg1; have z3 := cell_of_row w10 rb 3 _ _ _ Z10; have zl := heap_lt Z10; have zf := unfrozen Z10)
  all_goals
    have S := Lib.hid (RM.remark (Qs := Ps ++ [p]) HGE.out Z10 (by rw [flat_snoc, List.length_append]; exact hown1) (RF.grown hBs (by first | exact ((Below.refl _ _).drew).alloc (Nat.le_refl _) _ | exact ((Below.refl _ _).alloc (Nat.le_refl _) _).drew | exact (Below.refl _ _).alloc (Nat.le_refl _) _) (own_below H1.out (by first | exact ((Below.refl _ _).drew).alloc (Nat.le_refl _) _ | exact ((Below.refl _ _).alloc (Nat.le_refl _) _).drew | exact (Below.refl _ _).alloc (Nat.le_refl _) _)) hg1) rfl)
    have Y3 := cell_of_row _ rb 3 _ _ _ (blk_set Z10 3 (.slice (some ⟨g1, 0, none⟩) (Ps.length + 1) cap1))
    clear hown1 hg1 hat1 hlt1 Z10 b0 b1 b2 b3
    go_wp2_with fail
    go_ret
    have h := S.out
    rw [List.length_append] at h
    exact ⟨by simp, h⟩
set_option maxRecDepth 100000 in
theorem rundo9_out {w : World} {B rb : Nat} {p : PV} {Ps : List PV} (h : RM w B rb p Ps) {n : Int} (ho : n < 0 ∨ (Ps.length : Int) ≤ n) :
    Calls Try.prog 19 #[.pointer (some ⟨rb, 0, none⟩), .int .i64 n] w fun e w' => e = .returned (.int .i64 1) ∧ w' = w := by
  obtain ⟨MA, mc, b0, b1, b2, b3, bf, hl, hb, h1⟩ := h.box
  clear hb h h1
  by_cases hn : n < 0
  · go_enter Try.func19, Try.ntmps19
    go_wp2_with fail
    go_ret
    exact ⟨rfl, rfl⟩
  · have hge : n ≥ (Ps.length : Int) := by omega
    clear ho
    go_enter Try.func19, Try.ntmps19
    go_wp2_with fail
    go_ret
    exact ⟨rfl, rfl⟩
set_option maxRecDepth 100000 in
set_option maxHeartbeats 4000000 in
theorem rundo9_in {w : World} {B rb k : Nat} {p q : PV} {Ps : List PV} (h : RM w B rb p Ps) (hM : Ps.length ≤ 1000000) (hk : Ps[k]? = some q) :
    Calls Try.prog 19 #[.pointer (some ⟨rb, 0, none⟩), .int .i64 (k : Int)] w fun e w' => e = .returned (.int .i64 0) ∧ RM w' B rb q (Ps.take (k + 1)) ∧ RF B w w' := by
  obtain ⟨MA, mc, b0, b1, b2, b3, bf, hl, hb, h1⟩ := h.box
  have hkl := lt_of_at hk
  obtain ⟨g0, rfl, hg0, ⟨cs0, hh0, hz0⟩, hc0, hel⟩ := own_elem pvals_len h1 hk rfl
  have o0 := hel 0 _ rfl
  have o1 := hel 1 _ rfl
  have o2 := hel 2 _ rfl
  simp only [Nat.add_zero] at o0
  have hl0 := heap_lt hh0
  have hn0 : ¬ ((k : Int) < 0) := by omega
  have hnge : ¬ ((k : Int) ≥ (Ps.length : Int)) := by omega
  have hni : (k : Int) < (Ps.length : Int) := by omega
  have hk1 : k + 1 ≤ mc := by omega
  have hkl' : (k : Int) + 1 ≤ (Ps.length : Int) := by omega
  have hBs : B ≤ w.heap.size := by have := h.ge; omega
  have P3 := blk_set (blk_set (blk_set hb 0 (.int .i64 (q.n : Int))) 1 (.slice q.LA q.ln q.lc)) 2 (.slice q.AA q.am q.ac)
  obtain ⟨W, hW⟩ : ∃ W, W = ((w.setCell ⟨rb, 0, none⟩ (.int .i64 (q.n : Int))).setCell ⟨rb, 1, none⟩ (.slice q.LA q.ln q.lc)).setCell ⟨rb, 2, none⟩ (.slice q.AA q.am q.ac) := ⟨_, rfl⟩
  rw [← hW] at P3
  have hWk : ∀ b, b ≠ rb → W.heap[b]? = w.heap[b]? := fun b hb' => by
    rw [hW]; exact (Below.heap_setCell _ _ _ b hb').trans ((Below.heap_setCell _ _ _ b hb').trans (Below.heap_setCell _ _ _ b hb'))
  have hWs : W.heap.size = w.heap.size := by rw [hW]; simp
  have hne : g0 ≠ rb := by
    rintro rfl
    rw [hb] at hh0
    injection hh0 with hh0
    injection hh0 with _ hh0
    exact absurd hh0 (by decide)
  have RW := Lib.hid (show RF B w W from ⟨by rw [hW]; exact (((Below.refl _ _).setCell (p := ⟨rb, 0, none⟩) h.ge _).setCell (p := ⟨rb, 1, none⟩) h.ge _).setCell (p := ⟨rb, 2, none⟩) h.ge _, fun b o hbo hn => (hWk b (by rintro rfl; rw [hb] at hbo; injection hbo with hbo; exact (hn _ _ _ hbo.symm).1 rfl)).trans hbo⟩)
  have h2 := ownsRow_take h1 (k := k + 1) (by omega)
  have e2 : (Ps.flatMap PV.vals).take ((k + 1) * 3) = (Ps.take (k + 1)).flatMap PV.vals := by
    conv => lhs; rw [← List.take_append_drop (k + 1) Ps, List.flatMap_append]
    exact List.take_left' (by rw [flat_len PV.vals pvals_len, List.length_take, Nat.min_eq_left hkl])
  rw [e2] at h2
  have h3 : W.ownsRow B 32 3 (.slice (some ⟨g0, 0, none⟩) (k + 1) mc) (k + 1) ((Ps.take (k + 1)).flatMap PV.vals) := own_keep h2 fun g hg => hWk g (by cases hg; exact hne)
  have c3 := cell_of_row W rb 3 _ _ _ P3
  have wl := heap_lt P3
  have HP3 := Lib.hid P3
  have HGE := Lib.hid h.ge
  have H3 := Lib.hid h3
  have hlen : (Ps.take (k + 1)).length = k + 1 := by rw [List.length_take, Nat.min_eq_left hkl]
  have HLEN := Lib.hid hlen
  have hBW : B ≤ W.heap.size := by omega
  have HWS := Lib.hid hWs
  clear hel hh0 hb h h1 h2 h3 hWk P3 hWs hk hlen e2
  go_enter Try.func19, Try.ntmps19
  go_upto_region 4 with fail
  rw [← hW]
  clear hW b0 b1 b2 b3 bf o0 o1 o2 hl
  obtain ⟨us, hus⟩ : ∃ us, us = (Ps.take (k + 1)).flatMap PV.vals := ⟨_, rfl⟩
  have HU1 := Lib.hid (show ∀ u ∈ us, u.oneCell' = true from fun u hu => by
    rw [hus] at hu
    obtain ⟨x, _, hx⟩ := List.mem_flatMap.mp hu
    exact x.one u hx)
  have HUL := Lib.hid (show us.length = (k + 1) * 3 by rw [hus, flat_len PV.vals pvals_len, HLEN.out])
  have HUC := Lib.hid (show ∀ j u, us[j]? = some u → W.cell? ⟨g0, j, none⟩ = some u from fun j u hj => by
    obtain ⟨A9, c9, e9, _, _, _, hx9⟩ := own_open H3.out
    obtain ⟨g9, cur, e8, _, hh9, hcur⟩ := hx9 (by omega)
    injection e9 with e9 _ _
    rw [e8] at e9
    injection e9 with e9
    injection e9 with e9
    subst e9
    rw [cell_of_row W g0 j _ _ _ hh9, ← hj, hus]
    exact hcur j (by
      have : j < us.length := by
        rcases Nat.lt_or_ge j us.length with h | h
        · exact h
        · rw [List.getElem?_eq_none h] at hj; cases hj
      rw [HUL.out] at this
      exact this))
  have HUS := Lib.hid hus
  have hg0W : g0 < W.heap.size := by have := HWS.out; omega
  clear hus
  go_wp2_with (at_builtin; go_must (refine wpList_append_cells _ rfl _ _ _ rfl elState W.heap.size _ 0 [] rfl (ownsRow_empty _ _ _ _ (heap_alloc_new _ _)) (some ⟨g0, 0, none⟩) (k + 1) mc us rfl (fun h => by cases h) hk1 HUL.out ?_ HU1.out (by omega) (by unfold maxLen; omega) (by simp) ?_))
  · exact ⟨g0, 0, ⟨rfl, rfl⟩, fun j u hj => by
      rw [Nat.zero_add]
      exact ((belS (Below.refl W.heap.size W) (Obj.cells #[] 32)).cell (p := ⟨g0, j, none⟩) hg0W).trans (HUC.out j u hj)⟩
  intro v2 w2 hown2 hg2
  have B2 := Lib.hid (show Below W.heap.size W w2 from (belS (Below.refl W.heap.size W) (Obj.cells #[] 32)).grown hg2 (by simp) fun k hk => by simp [Value.ownBlock] at hk; omega)
  have Z := Lib.hid ((B2.out.block rb wl).trans HP3.out)
  obtain ⟨A9, c9, rfl, _, _, _, hx9⟩ := own_open hown2
  obtain ⟨g9, cur, rfl, _⟩ := hx9 (by omega)
  have z3 := cell_of_row w2 rb 3 _ _ _ Z.out
  have zl := heap_lt Z.out
  have zf := unfrozen Z.out
  have S := Lib.hid (RM.remark (Qs := Ps.take (k + 1)) (g := g9) (cap := c9) HGE.out Z.out (by rw [HLEN.out, ← HUS.out]; exact ownsRow_more hown2 hBW) (RW.out.trans (RF.below hBW B2.out)) rfl)
  clear hown2 hg2 hx9 c3
  go_wp2_with fail
  go_ret
  have h := S.out
  rw [HLEN.out] at h
  exact ⟨rfl, h⟩
end Go.Proofs.Ytgoedlbdnmhppaa
namespace Go.Proofs.Ytgoedlbdnmhppaa
open Go.RowKit

theorem TV.one (p : TV) : ∀ u ∈ p.vals, u.oneCell' = true := by
  intro u hu
  simp only [TV.vals, List.mem_cons, List.not_mem_nil, or_false] at hu
  rcases hu with rfl | rfl | rfl | rfl <;> rfl
/-- A row as the source of an append. -/
theorem row_src {w : World} {B : Nat} {e : TypeId} {s : Nat} {A : Option Addr} {m c : Nat} {us : List Value} (h : w.ownsRow B e s (.slice A m c) m us) :
    (A = none → c = 0) ∧ m ≤ c ∧ us.length = m * s ∧ (0 < m → ∃ b off, A = some ⟨b, off, none⟩ ∧ b < w.heap.size ∧ ∀ j u, us[j]? = some u → w.cell? ⟨b, off + j, none⟩ = some u) := by
  have hl := own_len h
  obtain ⟨A9, c9, e9, h1, h2, _, h3⟩ := own_open h
  injection e9 with e1 _ e3
  subst e1; subst e3
  refine ⟨h2, h1, hl, fun h0 => ?_⟩
  obtain ⟨g, cur, rfl, _, hh, hcur⟩ := h3 h0
  refine ⟨g, 0, rfl, heap_lt hh, fun j u hj => ?_⟩
  rw [Nat.zero_add, cell_of_row w g j _ _ _ hh, ← hj]
  exact hcur j (by
    have : j < us.length := by
      rcases Nat.lt_or_ge j us.length with h | h
      · exact h
      · rw [List.getElem?_eq_none h] at hj; cases hj
    omega)
theorem flat_one {ts : List TV} : ∀ u ∈ ts.flatMap TV.vals, u.oneCell' = true := fun u hu => by
  obtain ⟨x, _, hx⟩ := List.mem_flatMap.mp hu
  exact x.one u hx
theorem AT.set {w : World} {ts : List TV} {As : List T} (h : AT w ts As) {n : Nat} {v : TV} {a : T} (hv : TP w (fun _ => True) a (.agg #[.int .i64 v.k, .int .i64 v.n, .string v.s, .slice v.A v.m v.c])) (ha : a.aok) : AT w (ts.set n v) (As.set n a) := by
  refine ⟨by simp [h.len], fun i v' a' h1 h2 => ?_⟩
  rw [List.getElem?_set] at h1 h2
  by_cases e : n = i
  · subst e
    rw [if_pos rfl] at h1 h2
    split at h1
    · split at h2
      · injection h1 with h1; injection h2 with h2; subst h1; subst h2; exact ⟨hv, ha⟩
      · cases h2
    · cases h1
  · rw [if_neg e] at h1 h2
    exact h.tp i v' a' h1 h2
def RSetP (L : Bs) (As : List T) (w : World) (B rb : Nat) (Ps : List PV) (e : Ending) (w' : World) : Prop := e = .returned (.int .i64 0) ∧ ∃ p', RM w' B rb p' Ps ∧ PA w' p' L As ∧ RF B w w'
set_option maxRecDepth 100000 in
set_option maxHeartbeats 4000000 in
theorem rset9_out {w : World} {B rb : Nat} {p : PV} {Ps : List PV} (h : RM w B rb p Ps) {n : Int} (ho : n < 0 ∨ (p.n : Int) ≤ n) (a : TV) :
    Calls Try.prog 35 #[.pointer (some ⟨rb, 0, none⟩), .int .i64 n, .agg #[.int .i64 a.k, .int .i64 a.n, .string a.s, .slice a.A a.m a.c]] w fun e w' => e = .returned (.int .i64 1) ∧ Below w.heap.size w w' := by
  obtain ⟨MA, mc, x0, x1, x2, x3, _, hl, _, _⟩ := h.box
  obtain ⟨ak, an, as_, aA, am, ac⟩ := a
  clear h
  by_cases hn : n < 0
  · go_enter Try.func35, Try.ntmps35
    go_wp2_with fail
    go_ret
    exact ⟨rfl, (belS (Below.refl _ _) _)⟩
  · have hge : n ≥ (p.n : Int) := by omega
    clear ho
    go_enter Try.func35, Try.ntmps35
    go_wp2_with fail
    go_ret
    exact ⟨rfl, (belS (Below.refl _ _) _)⟩
set_option maxRecDepth 100000 in
set_option maxHeartbeats 4000000 in
theorem rset9_bound {w : World} {B rb : Nat} {p : PV} {Ps : List PV} {L : Bs} {As : List T} (h : RM w B rb p Ps) (hp : PA w p L As) {n : Int} (h0 : 0 ≤ n) (hn : n < (p.n : Int)) (hbd : (findB L n).isSome = true) (a : TV) :
    Calls Try.prog 35 #[.pointer (some ⟨rb, 0, none⟩), .int .i64 n, .agg #[.int .i64 a.k, .int .i64 a.n, .string a.s, .slice a.A a.m a.c]] w fun e w' => e = .returned (.int .i64 1) ∧ Below w.heap.size w w' := by
  obtain ⟨MA, mc, x0, x1, x2, x3, _, hl, _, _⟩ := h.box
  obtain ⟨ak, an, as_, aA, am, ac⟩ := a
  have hn0 : ¬ (n < 0) := by omega
  have hnge : ¬ (n ≥ (p.n : Int)) := by omega
  have BX := Lib.hid (belS (Below.refl w.heap.size w) (Obj.cells #[.int .i64 ak, .int .i64 an, .string as_, .slice aA am ac] 40))
  have CB := Lib.hid (rbound9_any (h.below BX.out) (hp.below BX.out) n)
  have HBD := Lib.hid hbd
  clear h hp hbd
  go_enter Try.func35, Try.ntmps35
  go_wp2_with fail
  refine CB.out.mono ?_
  rw [HBD.out]
  rintro e w5 ⟨rfl, h5⟩
  have H5 := Lib.hid (BX.out.trans (h5.mono BX.out.size))
  clear h5 CB
  go_wp2_with fail
  go_ret
  exact ⟨rfl, H5.out⟩
set_option maxRecDepth 100000 in
set_option maxHeartbeats 4000000 in
theorem rset9_in {w : World} {B rb : Nat} {p : PV} {Ps : List PV} {L : Bs} {As : List T} (h : RM w B rb p Ps) (hp : PA w p L As) (hA : As.length ≤ 1000000) {n : Nat} (hn : n < As.length) (hbd : (findB L (n : Int)).isSome = false) {a : T} {v : TV}
    (hv : TP w (fun _ => True) a (.agg #[.int .i64 v.k, .int .i64 v.n, .string v.s, .slice v.A v.m v.c])) (ha : a.aok) :
    Calls Try.prog 35 #[.pointer (some ⟨rb, 0, none⟩), .int .i64 (n : Int), .agg #[.int .i64 v.k, .int .i64 v.n, .string v.s, .slice v.A v.m v.c]] w fun e w' => RSetP L (As.set n a) w B rb Ps e w' := by
  obtain ⟨ak, an, as_, aA, am, ac⟩ := v
  obtain ⟨MA, mc, x0, x1, x2, x3, _, hl, _, _⟩ := h.box
  have hpn1 := Nat.le_of_eq hp.n
  have hpn2 := Nat.le_of_eq hp.n.symm
  have hpm1 := Nat.le_of_eq hp.am
  have hpm2 := Nat.le_of_eq hp.am.symm
  have hn0 : ¬ ((n : Int) < 0) := by omega
  have hnge : ¬ ((n : Int) ≥ (p.n : Int)) := by omega
  have BX := Lib.hid (belS (Below.refl w.heap.size w) (Obj.cells #[.int .i64 ak, .int .i64 an, .string as_, .slice aA am ac] 40))
  have CB := Lib.hid (rbound9_any (h.below BX.out) (hp.below BX.out) (n : Int))
  have X0 := Lib.hid (heap_alloc_new w (Obj.cells #[.int .i64 ak, .int .i64 an, .string as_, .slice aA am ac] 40))
  have HBD := Lib.hid hbd
  have H := Lib.hid h
  have HP := Lib.hid hp
  have HV := Lib.hid hv
  have hBw : B ≤ w.heap.size := by have := h.ge; omega
  clear h hp hbd hv
  go_enter Try.func35, Try.ntmps35
  go_wp2_with fail
  refine CB.out.mono ?_
  rw [HBD.out]
  rintro e w5 ⟨rfl, h5⟩
  have B5 := Lib.hid (BX.out.trans (h5.mono BX.out.size))
  have X5 := (h5.block _ (heap_lt X0.out)).trans X0.out
  have HX5 := Lib.hid X5
  have R5 := Lib.hid (H.out.below B5.out)
  have P5 := Lib.hid (HP.out.below B5.out)
  clear h5 CB X5 x0 x1 x2 x3 hl
  obtain ⟨MA', mc', x0, x1, x2, x3, _, hl, _, _⟩ := R5.out.box
  obtain ⟨ts, ho1, hat⟩ := P5.out.at_
  obtain ⟨s1, s2, s3, s4⟩ := row_src ho1
  have S4 := Lib.hid s4
  have AT5 := Lib.hid hat
  have S1 := Lib.hid s1
  have hlt1 := Nat.le_of_eq hat.len
  have hlt2 := Nat.le_of_eq hat.len.symm
  obtain ⟨us, hus⟩ : ∃ us, us = ts.flatMap TV.vals := ⟨_, rfl⟩
  have HUS := Lib.hid hus
  rw [← hus] at s3
  have HS3 := Lib.hid s3
  clear s4 hat s1 ho1 hus s3
  go_wp2_with (at_builtin; go_must (refine wpList_append_cells _ rfl _ _ _ rfl elTerm w5.heap.size _ 0 [] rfl (ownsRow_empty _ _ _ _ (heap_alloc_new _ _)) p.AA p.am p.ac us rfl S1.out s2 HS3.out ?_ (by rw [HUS.out]; exact flat_one) (by omega) (by unfold maxLen; omega) (by simp) ?_))
  · intro h0
    obtain ⟨b, off, hA, hb, hc⟩ := S4.out h0
    refine ⟨b, off, hA, fun j u hj => ?_⟩
    rw [HUS.out] at hj
    exact ((belS (Below.refl w5.heap.size w5) (Obj.cells #[] 40)).cell (p := ⟨b, off + j, none⟩) hb).trans (hc j u hj)
  intro v2 w2 hown2 hg2
  have B2 := Lib.hid (show Below w5.heap.size w5 w2 from (belS (Below.refl w5.heap.size w5) (Obj.cells #[] 40)).grown hg2 (by simp) fun k hk => by simp [Value.ownBlock] at hk; omega)
  obtain ⟨A9, c9, rfl, _, _, _, hx9⟩ := own_open hown2
  obtain ⟨g9, cur, rfl, hg9, hh9, _⟩ := hx9 (by omega)
  have R2 := Lib.hid (R5.out.below B2.out)
  have P2 := Lib.hid (P5.out.below B2.out)
  obtain ⟨MA2, mc2, b0, b1, b2, b3, bf, hbl, _, _⟩ := R2.out.box
  have XB := (B2.out.block _ (heap_lt HX5.out)).trans HX5.out
  obtain ⟨q0, q1, q2, q3⟩ := box4 XB
  have qlt := heap_lt XB
  obtain ⟨old, hold⟩ : ∃ old, ts[n]? = some old := ⟨_, List.getElem?_eq_getElem (by omega)⟩
  have hown3 : w2.ownsRow w5.heap.size 40 4 (.slice (some ⟨g9, 0, none⟩) p.am c9) p.am (ts.flatMap TV.vals) := by rw [← HUS.out]; exact hown2
  obtain ⟨g8, e8, _, _, _, hel⟩ := own_elem tvals_len hown3 hold (by omega)
  injection e8 with e8
  injection e8 with e8
  subst e8
  obtain ⟨ok, on, os, oA, om, oc⟩ := old
  have o0 := hel 0 _ rfl
  have o1 := hel 1 _ rfl
  have o2 := hel 2 _ rfl
  have o3 := hel 3 _ rfl
  simp only [Nat.add_zero] at o0
  have gf := unfrozen hh9
  have gl := heap_lt hh9
  have hni : (n : Int) < (p.am : Int) := by omega
  have hng : rb ≠ g9 := by have h1 := hl; have h2 := hg9; omega
  have hnb : w.heap.size ≠ g9 := by have h1 := B5.out.size; have h2 := hg9; have h3 := heap_lt HX5.out; omega
  have U := Lib.hid (setCells_own hown3 (o := n * 4) [.int .i64 ak, .int .i64 an, .string as_, .slice aA am ac] (by
    have : (n + 1) * 4 ≤ p.am * 4 := Nat.mul_le_mul_right _ (by omega)
    simp; omega))
  have HH9 := Lib.hid hh9
  have HG9 := Lib.hid hg9
  clear hown2 hown3 hg2 hx9 x0 x1 x2 x3 hel hold XB hh9 hg9
  obtain ⟨W, hW⟩ : ∃ W, W = w2.setCells g9 (n * 4) [.int .i64 ak, .int .i64 an, .string as_, .slice aA am ac] := ⟨_, rfl⟩
  have BW := Lib.hid (show Below w5.heap.size w5 W by rw [hW]; exact setCells_low HG9.out _ _ _ B2.out)
  have R3 := Lib.hid (R5.out.below BW.out)
  obtain ⟨MA3, mc3, d0, d1, d2, d3, df, dl, _, _⟩ := R3.out.box
  have WR := Lib.hid (R3.out.write 2 (.slice (some ⟨g9, 0, none⟩) p.am c9) ⟨p.n, p.LA, p.ln, p.lc, some ⟨g9, 0, none⟩, p.am, c9⟩ (fun m => rfl))
  have P3 := Lib.hid ((P5.out.below BW.out).rf WR.out.2)
  have hW' : (((w2.setCell ⟨g9, n * 4, none⟩ (.int .i64 ak)).setCell ⟨g9, n * 4 + 1, none⟩ (.int .i64 an)).setCell ⟨g9, n * 4 + 2, none⟩ (.string as_)).setCell ⟨g9, n * 4 + 3, none⟩ (.slice aA am ac) = W := hW.symm
  have HWW := Lib.hid hW
  clear hW
  go_upto_region 6 with fail
  try rw [hW']
  clear hW'
  have V9 := Lib.hid ((HV.out.below (B5.out.trans (BW.out.mono B5.out.size))).rf WR.out.2)
  have ROW := Lib.hid (show (W.setCell ⟨rb, 2, none⟩ (.slice (some ⟨g9, 0, none⟩) p.am c9)).ownsRow 0 40 4 (.slice (some ⟨g9, 0, none⟩) p.am c9) p.am ((ts.set n ⟨ak, an, as_, aA, am, ac⟩).flatMap TV.vals) from by
    have h1 := ownsRow_more U.out (Nat.zero_le _)
    rw [← HWW.out] at h1
    rw [flat_set TV.vals tvals_len ts n _ (by omega)]
    exact own_keep h1 fun g hg => Below.heap_setCell _ _ _ g (by cases hg; exact fun e => hng e.symm))
  have A9 := Lib.hid (show AT (W.setCell ⟨rb, 2, none⟩ (.slice (some ⟨g9, 0, none⟩) p.am c9)) (ts.set n ⟨ak, an, as_, aA, am, ac⟩) (As.set n a) from ((AT5.out.keep fun ht => ht.below BW.out).rf WR.out.2).set V9.out ha)
  go_wp2_with fail
  go_ret
  refine ⟨rfl, _, WR.out.1, ⟨by rw [List.length_set]; exact P3.out.n, P3.out.ln, by rw [List.length_set]; exact P3.out.am, P3.out.bl, P3.out.ok, _, ROW.out, A9.out⟩, (RF.below hBw (B5.out.trans (BW.out.mono B5.out.size))).trans WR.out.2⟩
end Go.Proofs.Ytgoedlbdnmhppaa
namespace Go.Proofs.Ytgoedlbdnmhppaa
open Go.RowKit

theorem zeros_terms (k : Nat) : (Builtin.zeroCells (Value.agg #[.int .i64 0, .int .i64 0, .string ⟨#[]⟩, .slice none 0 0]).cells k).toList = (List.replicate k TV.zero).flatMap TV.vals := by
  rw [zeroCells_list, List.flatMap_def, List.map_replicate]
  rfl
theorem zeros_terms_one (k : Nat) : ∀ u ∈ (Builtin.zeroCells (Value.agg #[.int .i64 0, .int .i64 0, .string ⟨#[]⟩, .slice none 0 0]).cells k).toList, u.oneCell' = true := by
  intro u hu
  rw [zeros_terms] at hu
  exact flat_one u hu
theorem AT.zeros {w : World} {ts : List TV} {As : List T} (h : AT w ts As) (k : Nat) : AT w (ts ++ List.replicate k TV.zero) (As ++ List.replicate k noneT) := by
  refine ⟨by simp [h.len], fun i v a h1 h2 => ?_⟩
  by_cases hi : i < ts.length
  · rw [List.getElem?_append_left hi] at h1
    rw [List.getElem?_append_left (by rw [← h.len]; exact hi)] at h2
    exact h.tp i v a h1 h2
  · rw [List.getElem?_append_right (by omega), List.getElem?_replicate] at h1
    rw [List.getElem?_append_right (by rw [← h.len]; omega), List.getElem?_replicate] at h2
    split at h1
    · split at h2
      · injection h1 with h1; injection h2 with h2; subst h1; subst h2
        exact ⟨TP.leaf0 _ _ _ _ _ _, .inr rfl⟩
      · cases h2
    · cases h1
def RFreshP (L : Bs) (As As' : List T) (w : World) (B rb : Nat) (Ps : List PV) (e : Ending) (w' : World) : Prop := e = .returned (.int .i64 (As.length : Int)) ∧ ∃ p', RM w' B rb p' Ps ∧ PA w' p' L As' ∧ RF B w w'
set_option maxRecDepth 100000 in
set_option maxHeartbeats 4000000 in
theorem rfresh9_any {w : World} {B rb : Nat} {p : PV} {Ps : List PV} {L : Bs} {As : List T} (h : RM w B rb p Ps) (hp : PA w p L As) (hA : As.length ≤ 1000000) (n : Int) :
    Calls Try.prog 13 #[.pointer (some ⟨rb, 0, none⟩), .int .i64 n] w fun e w' => RFreshP L As (As ++ List.replicate (fresh n) noneT) w B rb Ps e w' := by
  obtain ⟨MA, mc, x0, x1, x2, x3, _, hl, _, _⟩ := h.box
  have hpn1 := Nat.le_of_eq hp.n
  have hpn2 := Nat.le_of_eq hp.n.symm
  have hpm1 := Nat.le_of_eq hp.am
  have hpm2 := Nat.le_of_eq hp.am.symm
  have hBw : B ≤ w.heap.size := by have := h.ge; omega
  have R5 := Lib.hid h
  have P5 := Lib.hid hp
  obtain ⟨ts, ho1, hat⟩ := hp.at_
  obtain ⟨s1, s2, s3, s4⟩ := row_src ho1
  have S4 := Lib.hid s4
  have AT5 := Lib.hid hat
  have S1 := Lib.hid s1
  have hlt1 := Nat.le_of_eq hat.len
  have hlt2 := Nat.le_of_eq hat.len.symm
  obtain ⟨us, hus⟩ : ∃ us, us = ts.flatMap TV.vals := ⟨_, rfl⟩
  have HUS := Lib.hid hus
  rw [← hus] at s3
  have HS3 := Lib.hid s3
  obtain ⟨k, hk⟩ : ∃ k, fresh n = k := ⟨_, rfl⟩
  have hkle : k ≤ 1000 := by rw [← hk]; exact fresh_le n
  rw [hk]
  have HK := Lib.hid hk
  clear s4 hat s1 ho1 hus s3 h hp hk
  go_enter Try.func13, Try.ntmps13
  go_upto_region 2 with fail
  go_cut [1] (fun s wx => s = .int .i64 (k : Int) ∧ w = wx)
  case first =>
    go_wp2_with fail
    all_goals
      go_meet
    all_goals exact ⟨congrArg (Value.int IntKind.i64) (by have := HK.out; unfold fresh at this; omega), rfl⟩
  case rest =>
  obtain ⟨rfl, rfl⟩ := hcut
  go_wp2_with (at_builtin; go_must (refine wpList_append_cells _ rfl _ _ _ rfl elTerm w.heap.size _ 0 [] rfl (ownsRow_empty _ _ _ _ (heap_alloc_new _ _)) p.AA p.am p.ac us rfl S1.out s2 HS3.out ?_ (by rw [HUS.out]; exact flat_one) (by omega) (by unfold maxLen; omega) (by simp) ?_))
  · intro h0
    obtain ⟨b, off, hA, hb, hc⟩ := S4.out h0
    refine ⟨b, off, hA, fun j u hj => ?_⟩
    rw [HUS.out] at hj
    exact ((belS (Below.refl w.heap.size w) (Obj.cells #[] 40)).cell (p := ⟨b, off + j, none⟩) hb).trans (hc j u hj)
  intro v2 w2 hown2 hg2
  have B2 := Lib.hid (show Below w.heap.size w w2 from (belS (Below.refl w.heap.size w) (Obj.cells #[] 40)).grown hg2 (by simp) fun k hk => by simp [Value.ownBlock] at hk; omega)
  have hown3 : w2.ownsRow w.heap.size 40 4 v2 p.am us := hown2
  obtain ⟨v3, w3, hrun, hown4, hg4⟩ := run_append_own_zeros (P := Try.prog) w2 (ty := 30) (kq := .i64) elTerm Try.underlying3 zeros_terms_one hown3 k (by unfold maxLen; omega) (by omega) B2.out.size
  rw [zeros_terms] at hown4
  have B3 := Lib.hid (show Below w.heap.size w w3 from B2.out.grown hg4 B2.out.size fun q hq => (hown3.lt q hq).1)
  have hown5 : w3.ownsRow w.heap.size 40 4 v3 (p.am + k) ((ts ++ List.replicate k TV.zero).flatMap TV.vals) := by
    rw [List.flatMap_append, ← HUS.out]
    exact hown4
  obtain ⟨A9, c9, rfl, _, _, _, hx9⟩ := own_open hown5
  have R3 := Lib.hid (R5.out.below B3.out)
  obtain ⟨MA3, mc3, d0, d1, d2, d3, df, dl, _, _⟩ := R3.out.box
  have W1 := Lib.hid (R3.out.write 2 (.slice A9 (p.am + k) c9) ⟨p.n, p.LA, p.ln, p.lc, A9, p.am + k, c9⟩ (fun m => rfl))
  have W2 := Lib.hid (W1.out.1.write 0 (.int .i64 ((p.n + k : Nat) : Int)) ⟨p.n + k, p.LA, p.ln, p.lc, A9, p.am + k, c9⟩ (fun m => rfl))
  have RF3 := Lib.hid (W1.out.2.trans W2.out.2)
  have P3 := Lib.hid ((P5.out.below B3.out).rf RF3.out)
  have ROW := Lib.hid (show ((w3.setCell ⟨rb, 2, none⟩ (.slice A9 (p.am + k) c9)).setCell ⟨rb, 0, none⟩ (.int .i64 ((p.n + k : Nat) : Int))).ownsRow 0 40 4 (.slice A9 (p.am + k) c9) (p.am + k) ((ts ++ List.replicate k TV.zero).flatMap TV.vals) from
    own_keep (ownsRow_more hown5 (Nat.zero_le _)) fun g hg => by
      obtain ⟨cs, f, hh⟩ := Go.Lib.ownsRow_kind hown5 g hg
      exact (RF3.out.far g _ hh (notRf_of (by decide))).trans hh.symm)
  have A9' := Lib.hid (((AT5.out.keep fun ht => ht.below B3.out).rf RF3.out).zeros k)
  have FIN := Lib.hid (show ∀ W, W = (w3.setCell ⟨rb, 2, none⟩ (.slice A9 (p.am + k) c9)).setCell ⟨rb, 0, none⟩ (.int .i64 ((p.n + k : Nat) : Int)) → ∀ z : Int, z = (As.length : Int) → RFreshP L As (As ++ List.replicate k noneT) w B rb Ps (.returned (.int .i64 z)) W from fun W hW z hz => by
    subst hW; subst hz
    exact ⟨rfl, _, W2.out.1, ⟨by have := P5.out.n; simp; omega, P3.out.ln, by have := P5.out.am; simp; omega, P3.out.bl, P3.out.ok, _, ROW.out, A9'.out⟩, (RF.below hBw B3.out).trans RF3.out⟩)
  clear hown2 hown3 hg2 hown4 hown5 hg4 hx9
  obtain ⟨MA2, mc2, e0, e1, e2, e3, ef, el, _, _⟩ := (R5.out.below B2.out).box
  go_wp2_with (at_builtin; refine Lib.wpList_append_run _ rfl _ _ _ _ rfl _ _ rfl rfl _ _ hrun ?_)
  go_ret
  exact FIN.out _ (by simp) _ (by have := P5.out.n; omega)
end Go.Proofs.Ytgoedlbdnmhppaa
namespace Go.Proofs.Ytgoedlbdnmhppaa
open Go.RowKit

theorem backC_take (C : List CV) (R : List (CV × Nat)) (v : Nat) : (backC C R).take v = backC (C.take v) R := by
  induction R with
  | nil => rfl
  | cons e R ih =>
    show ((backC C R).set e.2 e.1).take v = (backC (C.take v) R).set e.2 e.1
    rw [List.take_set, ih]
/-- What is remembered at a mark. -/
structure MK where
  r : Nat
  v : Nat
  q : PV
  C : List CV
  L : Bs
  A : List T
def MK.m (h : MK) : Nat × Nat := (h.r, h.v)
structure Hp (C : List CV) (R : List (CV × Nat)) (h : MK) : Prop where
  r : h.r ≤ R.length
  v : h.v ≤ C.length
  len : h.v = h.C.length
  back : backC (C.take h.v) (R.drop h.r) = h.C
  tr : ∀ e ∈ R.take h.r, e.2 < h.v
theorem Hp.new (C : List CV) (R : List (CV × Nat)) (q : PV) (L : Bs) (A : List T) (ht : ∀ e ∈ R, e.2 < C.length) : Hp C R ⟨R.length, C.length, q, C, L, A⟩ :=
  ⟨Nat.le_refl _, Nat.le_refl _, rfl, by simp [backC], fun e he => ht e (List.mem_of_mem_take he)⟩
theorem Hp.fresh {C : List CV} {R : List (CV × Nat)} {h : MK} (hp : Hp C R h) (Z : List CV) : Hp (C ++ Z) R h :=
  ⟨hp.r, by have := hp.v; simp; omega, hp.len, by rw [List.take_append_of_le_length hp.v]; exact hp.back, hp.tr⟩
theorem Hp.grow {C C' : List CV} {R R2 : List (CV × Nat)} {h : MK} (hp : Hp C R h) (hb : backC C' R2 = C) (hl : C'.length = C.length) : Hp C' (R ++ R2) h := by
  refine ⟨by have := hp.r; simp; omega, by have := hp.v; omega, hp.len, ?_, fun e he => hp.tr e ?_⟩
  · rw [List.drop_append_of_le_length hp.r, backC_append, ← backC_take, hb]
    exact hp.back
  · rwa [List.take_append_of_le_length hp.r] at he
theorem Hp.undo {C : List CV} {R : List (CV × Nat)} {h h0 : MK} (hp : Hp C R h) (h0p : Hp C R h0) (hr : h.r ≤ h0.r) (hv : h.v ≤ h0.v) : Hp h0.C (R.take h0.r) h := by
  have hr0 := h0p.r
  refine ⟨by simp; omega, by have := h0p.len; omega, hp.len, ?_, fun e he => ?_⟩
  · rw [← h0p.back, backC_take, List.take_take, Nat.min_eq_left hv, ← backC_append]
    have : (R.take h0.r).drop h.r ++ R.drop h0.r = R.drop h.r := by
      conv => rhs; rw [← List.take_append_drop h0.r R]
      rw [List.drop_append_of_le_length (by simp; omega)]
    rw [this]
    exact hp.back
  · rw [List.take_take, Nat.min_eq_left hr] at he
    exact hp.tr e he
/-- What a mark's memory is in the world. -/
structure Hw (w : World) (h : MK) : Prop where
  cl : CL w h.C h.L
  at_ : AT w (h.C.map CV.attr) h.A
  pa : PA w h.q h.L h.A
/-- Where a law stands: w0 is the world at its start. -/
structure LS (B : Nat) (w : World) (sb rb : Nat) (C : List CV) (R : List (CV × Nat)) (p : PV) (L : Bs) (As : List T) (Hs : List MK) : Prop where
  sm : SM w B sb C R (Hs.map MK.m)
  rm : RM w B rb p (Hs.map MK.q)
  pa : PA w p L As
  cl : CL w C L
  at_ : AT w (C.map CV.attr) As
  tr : ∀ e ∈ R, e.2 < C.length
  hp : ∀ (k : Nat) (h : MK), Hs[k]? = some h → Hp C R h
  hw : ∀ (k : Nat) (h : MK), Hs[k]? = some h → Hw w h
  mono : ∀ (j k : Nat) (h h' : MK), j ≤ k → Hs[j]? = some h → Hs[k]? = some h' → h.r ≤ h'.r ∧ h.v ≤ h'.v
theorem Hw.keep {w w' : World} {h : MK} (hw : Hw w h) (hk : ∀ {t : T} {v : Value}, TP w (fun _ => True) t v → TP w' (fun _ => True) t v) (hpa : PA w h.q h.L h.A → PA w' h.q h.L h.A) : Hw w' h := ⟨hw.cl.keep hk, hw.at_.keep hk, hpa hw.pa⟩
theorem Hw.below {w w' : World} {h : MK} (hw : Hw w h) (hb : Below w.heap.size w w') : Hw w' h := hw.keep (fun ht => ht.below hb) fun hp => hp.below hb
theorem Hw.sf {B : Nat} {w w' : World} {h : MK} (hw : Hw w h) (hb : SF B w w') : Hw w' h := hw.keep (fun ht => ht.sf hb) fun hp => hp.sf hb
theorem Hw.rf {B : Nat} {w w' : World} {h : MK} (hw : Hw w h) (hb : RF B w w') : Hw w' h := hw.keep (fun ht => ht.rf hb) fun hp => hp.rf hb
theorem LS.below {B : Nat} {w w' : World} {sb rb : Nat} {C : List CV} {R : List (CV × Nat)} {p : PV} {L : Bs} {As : List T} {Hs : List MK} (h : LS B w sb rb C R p L As Hs) (hb : Below w.heap.size w w') : LS B w' sb rb C R p L As Hs :=
  ⟨h.sm.below hb, h.rm.below hb, h.pa.below hb, h.cl.below hb, h.at_.keep fun ht => ht.below hb, h.tr, h.hp, fun k g hg => (h.hw k g hg).below hb, h.mono⟩
theorem LS.len {B : Nat} {w : World} {sb rb : Nat} {C : List CV} {R : List (CV × Nat)} {p : PV} {L : Bs} {As : List T} {Hs : List MK} (h : LS B w sb rb C R p L As Hs) : C.length = As.length ∧ p.n = C.length := by
  have h1 := h.at_.len
  have h2 := h.pa.n
  simp at h1
  exact ⟨h1, by omega⟩
theorem LS.size {B : Nat} {w : World} {sb rb : Nat} {C : List CV} {R : List (CV × Nat)} {p : PV} {L : Bs} {As : List T} {Hs : List MK} (h : LS B w sb rb C R p L As Hs) : B ≤ w.heap.size ∧ sb < w.heap.size ∧ rb < w.heap.size := by
  obtain ⟨_, _, _, hl⟩ := h.sm.lenAt
  obtain ⟨_, _, _, _, _, _, _, hl2, _, _⟩ := h.rm.box
  have := h.sm.ge
  exact ⟨by omega, hl, hl2⟩
/-! Both calls of one kind, one behind the other. -/
theorem LS.fresh {B : Nat} {w w1 w2 : World} {sb rb : Nat} {C : List CV} {R : List (CV × Nat)} {p p' : PV} {L : Bs} {As : List T} {Hs : List MK} (h : LS B w sb rb C R p L As Hs) (k : Nat)
    (h1 : SM w1 B sb (C ++ List.replicate k CV.zero) R (Hs.map MK.m)) (f1 : SF B w w1) (h2 : RM w2 B rb p' (Hs.map MK.q)) (hp2 : PA w2 p' L (As ++ List.replicate k noneT)) (f2 : RF B w1 w2) :
    LS B w2 sb rb (C ++ List.replicate k CV.zero) R p' L (As ++ List.replicate k noneT) Hs := by
  refine ⟨h1.rf f2, h2, hp2, ?_, ?_, fun e he => by have := h.tr e he; simp; omega, fun j g hg => (h.hp j g hg).fresh _, fun j g hg => ((h.hw j g hg).sf f1).rf f2, h.mono⟩
  · have hc := (h.cl.sf f1).rf f2
    refine ⟨hc.ok, fun q hq => by have := hc.inn q hq; simp; omega, fun q hq v hv => by have := hc.kn q hq v hv; simp; omega, fun i c hi => ?_⟩
    by_cases hlt : i < C.length
    · rw [List.getElem?_append_left hlt] at hi
      exact hc.cell i c hi
    · rw [List.getElem?_append_right (by omega), List.getElem?_replicate] at hi
      split at hi
      · injection hi with hi
        subst hi
        have hn : findB L (i : Int) = none := hc.far (by omega)
        exact ⟨fun _ => rfl, fun t ht => by rw [hn] at ht; cases ht⟩
      · cases hi
  · have := ((h.at_.sf f1).rf f2).zeros k
    rw [List.map_append, List.map_replicate]
    exact this
theorem LS.mark {B : Nat} {w w1 w2 : World} {sb rb : Nat} {C : List CV} {R : List (CV × Nat)} {p : PV} {L : Bs} {As : List T} {Hs : List MK} (h : LS B w sb rb C R p L As Hs)
    (h1 : SM w1 B sb C R (Hs.map MK.m ++ [(R.length, C.length)])) (f1 : SF B w w1) (h2 : RM w2 B rb p (Hs.map MK.q ++ [p])) (f2 : RF B w1 w2) :
    LS B w2 sb rb C R p L As (Hs ++ [⟨R.length, C.length, p, C, L, As⟩]) := by
  have hcl := (h.cl.sf f1).rf f2
  have hat := (h.at_.sf f1).rf f2
  have hpa := (h.pa.sf f1).rf f2
  have hnew := Hp.new C R p L As h.tr
  have key : ∀ (k : Nat) (g : MK), (Hs ++ [⟨R.length, C.length, p, C, L, As⟩])[k]? = some g → Hs[k]? = some g ∨ (k = Hs.length ∧ g = ⟨R.length, C.length, p, C, L, As⟩) := fun k g hg => by
    by_cases hlt : k < Hs.length
    · rw [List.getElem?_append_left hlt] at hg; exact .inl hg
    · rw [List.getElem?_append_right (by omega)] at hg
      have h0 : k = Hs.length := by
        rcases Nat.eq_zero_or_pos (k - Hs.length) with h | h
        · omega
        · rw [List.getElem?_eq_none (by simp; omega)] at hg; cases hg
      subst h0
      simp at hg
      exact .inr ⟨rfl, hg.symm⟩
  refine ⟨by rw [List.map_append]; exact h1.rf f2, by rw [List.map_append]; exact h2, hpa, hcl, hat, h.tr, fun k g hg => ?_, fun k g hg => ?_, fun j k g g' hjk hj hk => ?_⟩
  · rcases key k g hg with h0 | ⟨_, rfl⟩
    · exact h.hp k g h0
    · exact hnew
  · rcases key k g hg with h0 | ⟨_, rfl⟩
    · exact ((h.hw k g h0).sf f1).rf f2
    · exact ⟨hcl, hat, hpa⟩
  · rcases key k g' hk with h0 | ⟨e0, rfl⟩
    · rcases key j g hj with h3 | ⟨e3, rfl⟩
      · exact h.mono j k g g' hjk h3 h0
      · have := lt_of_at h0; omega
    · rcases key j g hj with h3 | ⟨e3, rfl⟩
      · exact ⟨(h.hp j g h3).r, (h.hp j g h3).v⟩
      · exact ⟨Nat.le_refl _, Nat.le_refl _⟩
theorem LS.undo {B : Nat} {w w1 w2 : World} {sb rb k : Nat} {C : List CV} {R : List (CV × Nat)} {p : PV} {L : Bs} {As : List T} {Hs : List MK} {g : MK} (h : LS B w sb rb C R p L As Hs) (hk : Hs[k]? = some g)
    (h1 : SM w1 B sb ((backC C (R.drop g.r)).take g.v) (R.take g.r) ((Hs.map MK.m).take (k + 1))) (f1 : SF B w w1) (h2 : RM w2 B rb g.q ((Hs.map MK.q).take (k + 1))) (f2 : RF B w1 w2) :
    LS B w2 sb rb g.C (R.take g.r) g.q g.L g.A (Hs.take (k + 1)) := by
  have hg := h.hp k g hk
  have hgw := ((h.hw k g hk).sf f1).rf f2
  rw [backC_take, hg.back] at h1
  have hlt := lt_of_at hk
  have key : ∀ (j : Nat) (x : MK), (Hs.take (k + 1))[j]? = some x → Hs[j]? = some x ∧ j ≤ k := fun j x hx => by
    rw [List.getElem?_take] at hx
    split at hx
    · exact ⟨hx, by omega⟩
    · cases hx
  refine ⟨by rw [List.map_take]; exact h1.rf f2, by rw [List.map_take]; exact h2, hgw.pa, hgw.cl, hgw.at_, fun e he => by have := hg.tr e he; have := hg.len; omega, fun j x hx => ?_, fun j x hx => ?_, fun i j x x' hij hi hj => ?_⟩
  · obtain ⟨hx, hjk⟩ := key j x hx
    obtain ⟨h3, h4⟩ := h.mono j k x g hjk hx hk
    exact (h.hp j x hx).undo hg h3 h4
  · exact ((h.hw j x (key j x hx).1).sf f1).rf f2
  · exact h.mono i j x x' hij (key i x hi).1 (key j x' hj).1
theorem CL.setAttr {w : World} {C : List CV} {L : Bs} (h : CL w C L) {n : Nat} {c : CV} (hc : C[n]? = some c) (hb : c.b = false) (a : TV) : CL w (C.set n ⟨false, c.to, a⟩) L := by
  refine ⟨h.ok, fun q hq => by rw [List.length_set]; exact h.inn q hq, fun q hq v hv => by rw [List.length_set]; exact h.kn q hq v hv, fun i c' hi => ?_⟩
  rw [List.getElem?_set] at hi
  by_cases e : n = i
  · subst e
    rw [if_pos rfl] at hi
    split at hi
    · injection hi with hi
      subst hi
      have := h.bound hc
      rw [hb] at this
      cases hf : findB L (n : Int) with
      | none => exact ⟨fun _ => rfl, fun t ht => by cases ht⟩
      | some t => rw [hf] at this; cases this
    · cases hi
  · rw [if_neg e] at hi
    exact h.cell i c' hi
theorem LS.set {B : Nat} {w w1 w2 : World} {sb rb n : Nat} {C : List CV} {R : List (CV × Nat)} {p p' : PV} {L : Bs} {As : List T} {Hs : List MK} {c : CV} {a : T} {v : TV} (h : LS B w sb rb C R p L As Hs) (hc : C[n]? = some c) (hb : c.b = false)
    (hv : TP w (fun _ => True) a (.agg #[.int .i64 v.k, .int .i64 v.n, .string v.s, .slice v.A v.m v.c])) (ha : a.aok)
    (h1 : SM w1 B sb (C.set n ⟨false, c.to, v⟩) (R ++ [(c, n)]) (Hs.map MK.m)) (f1 : SF B w w1) (h2 : RM w2 B rb p' (Hs.map MK.q)) (hp2 : PA w2 p' L (As.set n a)) (f2 : RF B w1 w2) :
    LS B w2 sb rb (C.set n ⟨false, c.to, v⟩) (R ++ [(c, n)]) p' L (As.set n a) Hs := by
  have hn := lt_of_at hc
  have hback : backC (C.set n ⟨false, c.to, v⟩) [(c, n)] = C := by
    show (C.set n _).set n c = C
    rw [List.set_set]
    apply List.ext_getElem?
    intro j
    rw [List.getElem?_set]
    by_cases e : n = j
    · subst e; rw [if_pos rfl, if_pos hn]; exact hc.symm
    · simp [e]
  refine ⟨h1.rf f2, h2, hp2, ((h.cl.sf f1).rf f2).setAttr hc hb v, ?_, fun e he => ?_, fun k g hg => (h.hp k g hg).grow hback (by simp), fun k g hg => ((h.hw k g hg).sf f1).rf f2, h.mono⟩
  · rw [List.map_set]
    exact ((h.at_.sf f1).rf f2).set ((hv.sf f1).rf f2) ha
  · rw [List.length_set]
    rcases List.mem_append.mp he with he | he
    · exact h.tr e he
    · simp at he; subst he; exact hn
theorem LS.unify {B : Nat} {w w1 w2 : World} {sb rb : Nat} {C C' : List CV} {R R' : List (CV × Nat)} {p p' : PV} {L L' Ns : Bs} {As : List T} {Hs : List MK} (h : LS B w sb rb C R p L As Hs) (hg : Grew C C' R R' Ns)
    (h1 : SM w1 B sb C' R' (Hs.map MK.m)) (hc : CL w1 C' L') (f1 : SF B w w1) (h2 : RM w2 B rb p' (Hs.map MK.q)) (hp2 : PA w2 p' L' As) (f2 : RF B w1 w2) :
    LS B w2 sb rb C' R' p' L' As Hs := by
  obtain ⟨R2, rfl, hb, _, hi⟩ := hg.ex
  have hmap : C'.map CV.attr = C.map CV.attr := by
    apply List.ext_getElem?
    intro j
    rw [List.getElem?_map, List.getElem?_map]
    cases hj : C'[j]? with
    | none =>
      have : C.length ≤ j := by
        rcases Nat.lt_or_ge j C.length with h | h
        · have := hg.len; rw [List.getElem?_eq_getElem (by omega)] at hj; cases hj
        · exact h
      rw [List.getElem?_eq_none this]
    | some c' =>
      obtain ⟨c, h3, h4⟩ := hg.at_ j c' hj
      rw [h3]
      simp [h4]
  refine ⟨h1.rf f2, h2, hp2, hc.rf f2, by rw [hmap]; exact (h.at_.sf f1).rf f2, fun e he => ?_, fun k g hk => (h.hp k g hk).grow hb hg.len, fun k g hk => ((h.hw k g hk).sf f1).rf f2, h.mono⟩
  rw [hg.len]
  rcases List.mem_append.mp he with he | he
  · exact h.tr e he
  · exact hi e he
/-- Where neither has changed, but for new memory. -/
theorem LS.still {B : Nat} {w w1 w2 : World} {sb rb : Nat} {C : List CV} {R : List (CV × Nat)} {p p' : PV} {L : Bs} {As : List T} {Hs : List MK} (h : LS B w sb rb C R p L As Hs)
    (h1 : SM w1 B sb C R (Hs.map MK.m)) (f1 : SF B w w1) (h2 : RM w2 B rb p' (Hs.map MK.q)) (hp2 : PA w2 p' L As) (f2 : RF B w1 w2) : LS B w2 sb rb C R p' L As Hs :=
  ⟨h1.rf f2, h2, hp2, (h.cl.sf f1).rf f2, (h.at_.sf f1).rf f2, h.tr, h.hp, fun k g hg => ((h.hw k g hg).sf f1).rf f2, h.mono⟩
theorem LS.start {w1 w2 : World} {sb rb : Nat} {B : Nat} (h1 : SM w1 B sb [] [] []) (h2 : RM w2 B rb PV.zero []) (f2 : RF B w1 w2) : LS B w2 sb rb [] [] PV.zero [] [] [] :=
  ⟨h1.rf f2, h2, PA.zero _, ⟨EnvOk.nil, fun p hp => (by cases hp), fun p hp => (by cases hp), fun i c hc => by simp at hc⟩, ⟨rfl, fun i v a h => by simp at h⟩, (fun e he => by cases he), (fun k h hk => by simp at hk), (fun k h hk => by simp at hk), (fun j k h h' _ hj => by simp at hj)⟩
end Go.Proofs.Ytgoedlbdnmhppaa
namespace Go.Proofs.Ytgoedlbdnmhppaa
open Go.RowKit

section
variable {B : Nat} {wr w1 : World} {sb rb : Nat} {C : List CV} {R : List (CV × Nat)} {p : PV} {L : Bs} {As : List T} {Hs : List MK}
/-- What comes behind the program's call, and ahead of the reference's. -/
def Mid (B : Nat) (wr : World) (sb : Nat) (C : List CV) (R : List (CV × Nat)) (Ms : List (Nat × Nat)) (v : Value) (e : Ending) (w' : World) : Prop := e = .returned v ∧ SM w' B sb C R Ms ∧ SF B wr w'
/-- What comes behind both. -/
def Both (B : Nat) (wr : World) (sb rb : Nat) (C : List CV) (R : List (CV × Nat)) (L : Bs) (As : List T) (H' : PV → List MK) (v : Value) (e : Ending) (w' : World) : Prop := e = .returned v ∧ ∃ p', LS B w' sb rb C R p' L As (H' p') ∧ Below B wr w'
theorem pmark1 (F : LS B wr sb rb C R p L As Hs) (hM : Hs.length ≤ 1000000) (W : World) (hW : Below wr.heap.size wr W) :
    Calls Try.prog 10 #[.pointer (some ⟨sb, 0, none⟩)] W fun e w' => Mid B wr sb C R (Hs.map MK.m ++ [(R.length, C.length)]) (.int .i64 (Hs.length : Int)) e w' :=
  (smark_any (F.below hW).sm (by simpa using hM)).mono fun _ _ ⟨h1, h2, h3⟩ => ⟨by rw [h1]; simp, h2, (SF.below F.size.1 hW).trans h3⟩
theorem pmark2 (F : LS B wr sb rb C R p L As Hs) (hM : Hs.length ≤ 1000000) (h1 : SM w1 B sb C R (Hs.map MK.m ++ [(R.length, C.length)])) (f1 : SF B wr w1) (W : World) (hW : Below w1.heap.size w1 W) :
    Calls Try.prog 11 #[.pointer (some ⟨rb, 0, none⟩)] W fun e w' => Both B wr sb rb C R L As (fun _ => Hs ++ [⟨R.length, C.length, p, C, L, As⟩]) (.int .i64 (Hs.length : Int)) e w' := by
  have hs := h1.lenAt
  have f2 := f1.then F.size.1 hW
  refine (rmark9_any (F.rm.sf f2) (by simpa using hM)).mono fun _ _ ⟨g1, g2, g3⟩ => ⟨by rw [g1]; simp, p, F.mark (h1.below hW) f2 g2 g3, f2.low.trans g3.low⟩
theorem pfresh1 (F : LS B wr sb rb C R p L As Hs) (hC : C.length ≤ 1000000) (n : Int) (W : World) (hW : Below wr.heap.size wr W) :
    Calls Try.prog 12 #[.pointer (some ⟨sb, 0, none⟩), .int .i64 n] W fun e w' => Mid B wr sb (C ++ List.replicate (fresh n) CV.zero) R (Hs.map MK.m) (.int .i64 (C.length : Int)) e w' :=
  (sfresh_any (F.below hW).sm hC n).mono fun _ _ ⟨h1, h2, h3⟩ => ⟨h1, h2, (SF.below F.size.1 hW).trans h3⟩
theorem pfresh2 (F : LS B wr sb rb C R p L As Hs) (hC : C.length ≤ 1000000) (n : Int) (h1 : SM w1 B sb (C ++ List.replicate (fresh n) CV.zero) R (Hs.map MK.m)) (f1 : SF B wr w1) (W : World) (hW : Below w1.heap.size w1 W) :
    Calls Try.prog 13 #[.pointer (some ⟨rb, 0, none⟩), .int .i64 n] W fun e w' => Both B wr sb rb (C ++ List.replicate (fresh n) CV.zero) R L (As ++ List.replicate (fresh n) noneT) (fun _ => Hs) (.int .i64 (C.length : Int)) e w' := by
  have f2 := f1.then F.size.1 hW
  have hl := F.len.1
  refine (rfresh9_any (F.rm.sf f2) (F.pa.sf f2) (by omega) n).mono fun _ _ ⟨g1, p', g2, g3, g4⟩ => ⟨by rw [g1, hl], p', F.fresh _ (h1.below hW) f2 g2 g3 g4, f2.low.trans g4.low⟩
theorem pvars (F : LS B wr sb rb C R p L As Hs) (W : World) (hW : Below wr.heap.size wr W) :
    Calls Try.prog 14 #[.pointer (some ⟨sb, 0, none⟩)] W fun e w' => e = .returned (.int .i64 (C.length : Int)) ∧ w' = W := svars_any (F.below hW).sm
/-- The number of variables in the reference's box. -/
theorem LS.boxN (F : LS B wr sb rb C R p L As Hs) : wr.cell? ⟨rb, 0, none⟩ = some (.int .i64 (C.length : Int)) ∧ rb < wr.heap.size := by
  obtain ⟨_, _, h0, _, _, _, _, hl, _, _⟩ := F.rm.box
  rw [F.len.2] at h0
  exact ⟨h0, hl⟩
theorem pundo1 (F : LS B wr sb rb C R p L As Hs) (hR : R.length ≤ 1000000) (hC : C.length ≤ 1000000) (hM : Hs.length ≤ 1000000) {k : Nat} {g : MK} (hk : Hs[k]? = some g) (W : World) (hW : Below wr.heap.size wr W) :
    Calls Try.prog 18 #[.pointer (some ⟨sb, 0, none⟩), .int .i64 (k : Int)] W fun e w' => Mid B wr sb ((backC C (R.drop g.r)).take g.v) (R.take g.r) ((Hs.map MK.m).take (k + 1)) (.int .i64 0) e w' := by
  have hp := F.hp k g hk
  have hrl : (R.take g.r).length = g.r := by rw [List.length_take, Nat.min_eq_left hp.r]
  refine (sundo_any (R1 := R.take g.r) (R2 := R.drop g.r) (v := g.v) (k := k) (by rw [List.take_append_drop]; exact (F.below hW).sm) (fun e he => F.tr e (List.mem_of_mem_drop he)) (by rw [List.take_append_drop]; exact hR) hC (by simpa using hM) (by rw [hrl, List.getElem?_map, hk]; rfl) hp.v).mono fun _ _ ⟨h1, h2, h3⟩ => ⟨h1, h2, (SF.below F.size.1 hW).trans h3⟩
theorem pundo2 (F : LS B wr sb rb C R p L As Hs) (hM : Hs.length ≤ 1000000) {k : Nat} {g : MK} (hk : Hs[k]? = some g) (h1 : SM w1 B sb ((backC C (R.drop g.r)).take g.v) (R.take g.r) ((Hs.map MK.m).take (k + 1))) (f1 : SF B wr w1) (W : World) (hW : Below w1.heap.size w1 W) :
    Calls Try.prog 19 #[.pointer (some ⟨rb, 0, none⟩), .int .i64 (k : Int)] W fun e w' => Both B wr sb rb g.C (R.take g.r) g.L g.A (fun _ => Hs.take (k + 1)) (.int .i64 0) e w' := by
  have f2 := f1.then F.size.1 hW
  refine (rundo9_in (q := g.q) (F.rm.sf f2) (by simpa using hM) (by rw [List.getElem?_map, hk]; rfl)).mono fun _ _ ⟨g1, g2, g3⟩ => ⟨g1, g.q, F.undo hk (h1.below hW) f2 g2 g3, f2.low.trans g3.low⟩
/-- The program's Undo alone. -/
theorem LS.undoP (F : LS B wr sb rb C R p L As Hs) {k : Nat} {g : MK} (hk : Hs[k]? = some g) (h1 : SM w1 B sb ((backC C (R.drop g.r)).take g.v) (R.take g.r) ((Hs.map MK.m).take (k + 1))) (f1 : SF B wr w1) : SM w1 B sb g.C (R.take g.r) ((Hs.take (k + 1)).map MK.m) ∧ Hw w1 g := by
  have hg := F.hp k g hk
  rw [backC_take, hg.back] at h1
  exact ⟨by rw [List.map_take]; exact h1, (F.hw k g hk).sf f1⟩
end
end Go.Proofs.Ytgoedlbdnmhppaa
namespace Go.Proofs.Ytgoedlbdnmhppaa
open Go.RowKit

def vV (n : Int) : Value := .agg #[.int .i64 1, .int .i64 n, .string ⟨#[]⟩, .slice none 0 0]
def iV (n : Int) : Value := .agg #[.int .i64 2, .int .i64 n, .string ⟨#[]⟩, .slice none 0 0]
theorem lvar9_any (n : Int) (w : World) : Calls Try.prog 16 #[.int .i64 n] w fun e w' => e = .returned (.agg #[.int .i64 1, .int .i64 n, .string ⟨#[]⟩, .slice none 0 0]) ∧ Below w.heap.size w w' := by
  go_enter Try.func16, Try.ntmps16
  go_wp2_with fail
  exact bodyPost_ret (v := .agg #[.int .i64 1, .int .i64 n, .string ⟨#[]⟩, .slice none 0 0]) (by simp [results, go_sem]) rfl ⟨rfl, (Below.refl _ _).alloc (Nat.le_refl _) _⟩
set_option maxRecDepth 100000 in
set_option maxHeartbeats 4000000 in
theorem sknown_var {B sb : Nat} {C : List CV} {R : List (CV × Nat)} {M : List (Nat × Nat)} {w : World} (h : SM w B sb C R M) (n : Int) :
    Calls Try.prog 26 #[.pointer (some ⟨sb, 0, none⟩), .agg #[.int .i64 1, .int .i64 n, .string ⟨#[]⟩, .slice none 0 0]] w fun e w' => e = .returned (.bool (decide (n < (C.length : Int)))) ∧ Below w.heap.size w w' := by
  obtain ⟨A0, c0, b0, hl⟩ := h.lenAt
  clear h
  go_enter Try.func26, Try.ntmps26
  go_wp2_with fail
  go_quiet (fail)
  go_wp2_with fail
  go_ret
  exact ⟨rfl, bel_drewN (belS (Below.refl _ _) _) _⟩
theorem sknown_int {B sb : Nat} {C : List CV} {R : List (CV × Nat)} {M : List (Nat × Nat)} {w : World} (h : SM w B sb C R M) (n : Int) (hn : I64 n) :
    Calls Try.prog 26 #[.pointer (some ⟨sb, 0, none⟩), .agg #[.int .i64 2, .int .i64 n, .string ⟨#[]⟩, .slice none 0 0]] w fun e w' => e = .returned (.bool true) ∧ Below w.heap.size w w' := by
  have hok : (T.mk 2 n ⟨#[]⟩ 0 fun _ => .nil).ok := ⟨⟨.inr (.inl ⟨rfl, hn, rfl, rfl⟩), fun i hi => absurd hi (by omega)⟩, by simp [T.nodes, sumTo]⟩
  refine (sknown_any _ hok w _ (fun _ => True) h (TP.leaf0 _ _ _ _ _ _)).mono ?_
  rintro e w' ⟨⟨b, rfl, hb⟩, h1⟩
  obtain rfl := hb.mpr (fun u hu => by rcases hu with ⟨h, _⟩ | ⟨h, _⟩ <;> exact absurd h (by decide))
  exact ⟨rfl, h1⟩
set_option maxRecDepth 100000 in
set_option maxHeartbeats 8000000 in
theorem sunify_var1 {w : World} {B sb : Nat} {C : List CV} {R : List (CV × Nat)} {M : List (Nat × Nat)} (h : SM w B sb C R M) {n : Int} (hn : (C.length : Int) ≤ n) :
    Calls Try.prog 15 #[.pointer (some ⟨sb, 0, none⟩), .agg #[.int .i64 1, .int .i64 n, .string ⟨#[]⟩, .slice none 0 0], .agg #[.int .i64 2, .int .i64 1, .string ⟨#[]⟩, .slice none 0 0]] w fun e w' => e = .returned (.tuple #[.slice none 0 0, .int .i64 1]) ∧ Below w.heap.size w w' := by
  have B2 := Lib.hid (belS (belS (Below.refl w.heap.size w) (Obj.cells #[.int .i64 1, .int .i64 n, .string ⟨#[]⟩, .slice none 0 0] 40)) (Obj.cells #[.int .i64 2, .int .i64 1, .string ⟨#[]⟩, .slice none 0 0] 40))
  have CA := Lib.hid (sknown_var (h.below B2.out) n)
  have hnl : ¬ (n < (C.length : Int)) := by omega
  clear h
  go_enter Try.func15, Try.ntmps15
  go_wp2_with fail
  refine CA.out.mono ?_
  rintro e w5 ⟨rfl, h5⟩
  have H5 := Lib.hid (B2.out.trans (h5.mono B2.out.size))
  have hd : decide (n < (C.length : Int)) = false := decide_eq_false (by omega)
  clear h5 CA
  go_wp2_with fail
  go_ret2
  exact ⟨rfl, H5.out⟩
set_option maxRecDepth 100000 in
set_option maxHeartbeats 8000000 in
theorem sunify_var2 {w : World} {B sb : Nat} {C : List CV} {R : List (CV × Nat)} {M : List (Nat × Nat)} (h : SM w B sb C R M) {n : Int} (hn : (C.length : Int) ≤ n) :
    Calls Try.prog 15 #[.pointer (some ⟨sb, 0, none⟩), .agg #[.int .i64 2, .int .i64 1, .string ⟨#[]⟩, .slice none 0 0], .agg #[.int .i64 1, .int .i64 n, .string ⟨#[]⟩, .slice none 0 0]] w fun e w' => e = .returned (.tuple #[.slice none 0 0, .int .i64 1]) ∧ Below w.heap.size w w' := by
  have B2 := Lib.hid (belS (belS (Below.refl w.heap.size w) (Obj.cells #[.int .i64 2, .int .i64 1, .string ⟨#[]⟩, .slice none 0 0] 40)) (Obj.cells #[.int .i64 1, .int .i64 n, .string ⟨#[]⟩, .slice none 0 0] 40))
  have CA := Lib.hid (sknown_int (h.below B2.out) 1 ⟨by omega, by omega⟩)
  have CB := Lib.hid (fun (W : World) (hW : Below w.heap.size w W) => sknown_var (h.below hW) n)
  have Y0 := Lib.hid (show ((w.alloc (Obj.cells #[.int .i64 2, .int .i64 1, .string ⟨#[]⟩, .slice none 0 0] 40)).alloc (Obj.cells #[.int .i64 1, .int .i64 n, .string ⟨#[]⟩, .slice none 0 0] 40)).heap[w.heap.size + 1]? = some (.cells #[.int .i64 1, .int .i64 n, .string ⟨#[]⟩, .slice none 0 0] 40 (0, 0)) from
    (congrArg _ (by simp)).trans (heap_alloc_new _ _))
  have hnl : ¬ (n < (C.length : Int)) := by omega
  clear h
  go_enter Try.func15, Try.ntmps15
  go_wp2_with fail
  refine CA.out.mono ?_
  rintro e w5 ⟨rfl, h5⟩
  have H5 := Lib.hid (B2.out.trans (h5.mono B2.out.size))
  have hy := (h5.block _ (heap_lt Y0.out)).trans Y0.out
  obtain ⟨y0, y1, y2, y3⟩ := box4 hy
  have hyl := heap_lt hy
  clear h5 CA hy
  go_wp2_with fail
  refine (CB.out _ H5.out).mono ?_
  rintro e w6 ⟨rfl, h6⟩
  have H6 := Lib.hid (H5.out.trans (h6.mono H5.out.size))
  have hd : decide (n < (C.length : Int)) = false := decide_eq_false (by omega)
  clear h6 CB
  go_wp2_with fail
  go_ret2
  exact ⟨rfl, H6.out⟩
set_option maxRecDepth 100000 in
set_option maxHeartbeats 8000000 in
theorem swalk_var {w : World} {B sb : Nat} {C : List CV} {R : List (CV × Nat)} {M : List (Nat × Nat)} (h : SM w B sb C R M) {i : Nat} {c : CV} (hc : C[i]? = some c) (hb : c.b = false) :
    Calls Try.prog 29 #[.pointer (some ⟨sb, 0, none⟩), .agg #[.int .i64 1, .int .i64 (i : Int), .string ⟨#[]⟩, .slice none 0 0]] w fun e w' => e = .returned (.agg #[.int .i64 1, .int .i64 (i : Int), .string ⟨#[]⟩, .slice none 0 0]) ∧ Below w.heap.size w w' := by
  have hin := lt_of_at hc
  have HS := Lib.hid h
  obtain ⟨q, ⟨tk, tn, ts, tA, tm, tc⟩, ⟨ak, an, as_, aA, am, ac⟩⟩ := c
  obtain rfl : q = false := hb
  have HC := Lib.hid hc
  have hls := h.lenAt
  obtain ⟨_, _, _, hls⟩ := hls
  clear h hc
  go_enter Try.func29, Try.ntmps29
  go_wp2_with fail
  go_loopw [28] (fun _ wr => wr.heap[w.heap.size]? = some (.cells #[.int .i64 1, .int .i64 (i : Int), .string ⟨#[]⟩, .slice none 0 0] 40 (0, 0)) ∧ wr.heap[w.heap.size + 1]? = some (.cells #[.int .i64 0, .int .i64 0, .string ⟨#[]⟩, .slice none 0 0] 40 (0, 0)) ∧ Below w.heap.size w wr) (fun _ _ => 0)
  case atStart =>
    exact ⟨(Below.heap_alloc _ _ _ (by simp)).trans (heap_alloc_new _ _), (congrArg _ (by simp)).trans (heap_alloc_new _ _), belS (belS (Below.refl _ _) _) _⟩
  case round =>
    obtain ⟨hx, hy, hb⟩ := hrel
    have HY := Lib.hid hy
    have HB := Lib.hid hb
    obtain ⟨g0, c0, cs, b0, hl, hh0, hcc, hel⟩ := (HS.out.below hb).cellAt HC.out
    have o0 := hel 0 _ rfl
    simp only [Nat.add_zero] at o0
    have hl0 := heap_lt hh0
    have hini : (i : Int) < (C.length : Int) := by omega
    obtain ⟨x0, x1, x2, x3⟩ := box4 hx
    obtain ⟨y0, y1, y2, y3⟩ := box4 hy
    have yf := unfrozen hy
    have hgl := heap_lt hx
    have hgl1 := heap_lt hy
    have P1 := Lib.hid (fun nq => put_new0 (w := w) (wr := wr.drewN nq) HY.out (Nat.le_succ _) (bel_drewN HB.out nq) (.int .i64 1) (.int .i64 (i : Int)) (.string ⟨#[]⟩) (.slice none 0 0))
    clear hel hh0 hx hy hb
    go_wp2_with fail
    go_quiet (fail)
    go_wp2_with fail
    obtain ⟨p0, p1, p2, p3⟩ := box4 (P1.out nq).1
    refine bodyPost_ret (v := .agg #[.int .i64 1, .int .i64 (i : Int), .string ⟨#[]⟩, .slice none 0 0]) (by simp [results, go_sem, p0, p1, p2, p3]) rfl ?_
    exact ⟨rfl, (P1.out nq).2.2⟩
set_option maxRecDepth 100000 in
set_option maxHeartbeats 8000000 in
theorem sres_var {w : World} {B sb : Nat} {C : List CV} {R : List (CV × Nat)} {M : List (Nat × Nat)} (h : SM w B sb C R M) {i : Nat} {c : CV} (hc : C[i]? = some c) (hb : c.b = false) :
    Calls Try.prog 17 #[.pointer (some ⟨sb, 0, none⟩), .agg #[.int .i64 1, .int .i64 (i : Int), .string ⟨#[]⟩, .slice none 0 0]] w fun e w' => e = .returned (.agg #[.int .i64 1, .int .i64 (i : Int), .string ⟨#[]⟩, .slice none 0 0]) ∧ Below w.heap.size w w' := by
  have B2 := Lib.hid (belS (belS (Below.refl w.heap.size w) (Obj.cells #[.int .i64 1, .int .i64 (i : Int), .string ⟨#[]⟩, .slice none 0 0] 40)) (Obj.cells #[.int .i64 0, .int .i64 0, .string ⟨#[]⟩, .slice none 0 0] 40))
  have CA := Lib.hid (swalk_var (h.below B2.out) hc hb)
  have X0 := Lib.hid (show ((w.alloc (Obj.cells #[.int .i64 1, .int .i64 (i : Int), .string ⟨#[]⟩, .slice none 0 0] 40)).alloc (Obj.cells #[.int .i64 0, .int .i64 0, .string ⟨#[]⟩, .slice none 0 0] 40)).heap[w.heap.size]? = some (.cells #[.int .i64 1, .int .i64 (i : Int), .string ⟨#[]⟩, .slice none 0 0] 40 (0, 0)) from
    (Below.heap_alloc _ _ _ (by simp)).trans (heap_alloc_new _ _))
  have Y0 := Lib.hid (show ((w.alloc (Obj.cells #[.int .i64 1, .int .i64 (i : Int), .string ⟨#[]⟩, .slice none 0 0] 40)).alloc (Obj.cells #[.int .i64 0, .int .i64 0, .string ⟨#[]⟩, .slice none 0 0] 40)).heap[w.heap.size + 1]? = some (.cells #[.int .i64 0, .int .i64 0, .string ⟨#[]⟩, .slice none 0 0] 40 (0, 0)) from
    (congrArg _ (by simp)).trans (heap_alloc_new _ _))
  clear h hc hb
  go_enter Try.func17, Try.ntmps17
  go_wp2_with fail
  refine CA.out.mono ?_
  rintro e w1 ⟨rfl, h1⟩
  have hx := (h1.block _ (heap_lt X0.out)).trans X0.out
  have hy := (h1.block _ (heap_lt Y0.out)).trans Y0.out
  have H1 := Lib.hid (B2.out.trans (h1.mono B2.out.size))
  obtain ⟨x0, x1, x2, x3⟩ := box4 hx
  obtain ⟨y0, y1, y2, y3⟩ := box4 hy
  have xf := unfrozen hx
  have yf := unfrozen hy
  have hxl := heap_lt hx
  have hyl := heap_lt hy
  have P := Lib.hid (put_new0 hx (Nat.le_refl _) H1.out (.int .i64 1) (.int .i64 (i : Int)) (.string ⟨#[]⟩) (.slice none 0 0))
  have Q := Lib.hid (put_new0 ((P.out.2.1 _ (by omega)).trans hy) (Nat.le_succ _) P.out.2.2 (.int .i64 1) (.int .i64 (i : Int)) (.string ⟨#[]⟩) (.slice none 0 0))
  clear h1 CA hx hy
  go_wp2_with fail
  obtain ⟨p0, p1, p2, p3⟩ := box4 Q.out.1
  refine bodyPost_ret (v := .agg #[.int .i64 1, .int .i64 (i : Int), .string ⟨#[]⟩, .slice none 0 0]) (by simp [results, go_sem, p0, p1, p2, p3]) rfl ?_
  exact ⟨rfl, Q.out.2.2⟩
end Go.Proofs.Ytgoedlbdnmhppaa
namespace Go.Proofs.Ytgoedlbdnmhppaa
open Go.RowKit
attribute [local go_sem ↓] Go.wp_at_zero Go.wp_at_succ

theorem RM.base {w : World} {B B' rb : Nat} {p : PV} {Ps : List PV} (h : RM w B rb p Ps) (hB : B' ≤ B) : RM w B' rb p Ps := by
  obtain ⟨MA, mc, h0, h1⟩ := h.ex
  exact ⟨⟨MA, mc, h0, ownsRow_more h1 hB⟩, Nat.le_trans hB h.ge⟩
/-- A row of integers that a law is given. -/
structure Ints (w : World) (A : Option Addr) (m c : Nat) (z : Nat → Int) : Prop where
  cap : m ≤ c
  rng : ∀ i, i < m → I64 (z i)
  at_ : 0 < m → ∃ b off, A = some ⟨b, off, none⟩ ∧ b < w.heap.size ∧ ∀ i, i < m → w.cell? ⟨b, off + i, none⟩ = some (.int .i64 (z i))
theorem fieldT (k n : Int) (s : ByteArray) (A : Option Addr) (m c : Nat) (W : World) : (Instr.field 40 (.agg #[.int .i64 k, .int .i64 n, .string s, .slice A m c]) 1).run Try.prog W = .ok (.int .i64 n) W ∧ (Instr.field 40 (.agg #[.int .i64 k, .int .i64 n, .string s, .slice A m c]) 0).run Try.prog W = .ok (.int .i64 k) W := by
  constructor <;> kernel_rfl
/-- What lies in the first cell of a block. -/
def numAt (w : World) (b : Nat) : Value := (w.cell? ⟨b, 0, none⟩).getD undef
theorem numAt_of {w : World} {b : Nat} {v : Value} (h : w.cell? ⟨b, 0, none⟩ = some v) : w.cell? ⟨b, 0, none⟩ = some (numAt w b) ∧ numAt w b = v := by
  unfold numAt; rw [h]; exact ⟨rfl, rfl⟩
theorem RM.numS {w : World} {B rb : Nat} {p : PV} {Ps : List PV} (h : RM w B rb p Ps) : w.cell? ⟨rb, 0, none⟩ = some (numAt w rb) := by
  obtain ⟨_, _, h0, _⟩ := h.box
  exact (numAt_of h0).1
theorem LS.numN {B : Nat} {w : World} {sb rb : Nat} {C : List CV} {R : List (CV × Nat)} {p : PV} {L : Bs} {As : List T} {Hs : List MK} (h : LS B w sb rb C R p L As Hs) : numAt w rb = .int .i64 (C.length : Int) := (numAt_of h.boxN.1).2
theorem fresh_len (C : List CV) (n : Int) : (C ++ List.replicate (fresh n) CV.zero).length ≤ C.length + 1000 := by
  have := fresh_le n
  simp; omega
theorem wpAnyH_less {P : Program} {md : Region.Mode} {ops : Array Oper} {Q : Exit → Act → World → Prop} {S S' : World → Prop} (hS : ∀ w, S' w → S w) :
    ∀ {fuel : Nat} {listed : Array Bool} {a : Act} {w : World}, wpAnyH P md ops Q S' fuel listed a w → wpAnyH P md ops Q S fuel listed a w
  | 0, _, _, _, h => h
  | _ + 1, _, _, _, h => ⟨h.1, fun i hi => wpOp_mono (fun _ _ h' => ⟨hS _ h'.1, wpAnyH_less hS h'.2⟩) (h.2 i hi)⟩
set_option maxRecDepth 100000 in
set_option maxHeartbeats 16000000 in
theorem stfresh_any {w : World} {A : Option Addr} {m c : Nat} {z : Nat → Int} (hz : Ints w A m c z) :
    Calls Try.prog 3 #[.slice A m c] w fun e w' => e = .returned (.bool true) ∧ Below w.heap.size w w' := by
  have HZ := Lib.hid hz
  have hmc := hz.cap
  clear hz
  by_cases hm : (30 : Int) < (m : Int)
  · have hm' : (m : Int) > 30 := hm
    go_enter Try.func3, Try.ntmps3
    go_wp2_with fail
    go_ret
    exact ⟨rfl, Below.refl _ _⟩
  have hm' : ¬ ((m : Int) > 30) := hm
  go_enter Try.func3, Try.ntmps3
  go_wp2_with fail
  refine (snew_any w).mono ?_
  rintro e w1 ⟨rfl, hs1, h1⟩
  have S1 := Lib.hid hs1
  have H1 := Lib.hid h1
  clear hs1 h1
  go_wp2_with fail
  refine (rnew9_any w1).mono ?_
  rintro e w2 ⟨rfl, hr2, h2⟩
  obtain ⟨rb, hrb⟩ : ∃ rb, rb = w1.heap.size := ⟨_, rfl⟩
  have F0 := Lib.hid (show LS w.heap.size w2 w.heap.size rb [] [] PV.zero [] [] [] from LS.start (w1 := w1) S1.out (by rw [hrb]; exact hr2.base H1.out.size) (RF.below H1.out.size h2))
  have B0 := Lib.hid (H1.out.trans (h2.mono H1.out.size))
  rw [← hrb]
  clear hr2 h2 S1 H1 hrb
  go_wp2_with fail
  go_loopw [5] (fun iv wr => ∃ (i : Nat) (C : List CV) (p : PV) (As : List T) (Hs : List MK), iv = .int .i64 (i : Int) ∧ i ≤ m ∧ Hs.length = i ∧ C.length ≤ 1000 * i ∧ (∀ g, Hs[0]? = some g → g.C = []) ∧ (Hs = [] → C = []) ∧ LS w.heap.size wr w.heap.size rb C [] p [] As Hs ∧ Below w.heap.size w wr) (fun iv _ => m - (intOf iv).toNat)
  case atStart => exact ⟨0, [], PV.zero, [], [], rfl, Nat.zero_le _, rfl, Nat.le_refl _, (fun g hg => by simp at hg), fun _ => rfl, F0.out, B0.out⟩
  case round =>
    clear F0 B0
    obtain ⟨i, C, p, As, Hs, rfl, hi, hhl, hcl, hg0, hnil, hf, hb⟩ := hrel
    have F := Lib.hid hf
    have HB := Lib.hid hb
    have HL := Lib.hid hhl
    have HG := Lib.hid hg0
    have HN := Lib.hid hnil
    have hi1 := Nat.le_of_eq hhl
    have hi2 := Nat.le_of_eq hhl.symm
    clear hf hb hhl hg0 hnil
    by_cases him : i < m
    · have him' : (i : Int) < (m : Int) := by omega
      obtain ⟨b, off, rfl, hbl, hcz⟩ := HZ.out.at_ (by omega)
      have KZ := Lib.hid (show ∀ W, Below w.heap.size w W → W.cell? ⟨b, off + i, none⟩ = some (.int .i64 (z i)) ∧ b < W.heap.size from fun W hW => ⟨(hW.cell (p := ⟨b, off + i, none⟩) hbl).trans (hcz i him), Nat.lt_of_lt_of_le hbl hW.size⟩)
      obtain ⟨k0, k1⟩ := KZ.out _ HB.out
      have hM : Hs.length ≤ 1000000 := by omega
      have hC : C.length ≤ 1000000 := by omega
      have CM1 := Lib.hid (fun W hW => pmark1 F.out hM W hW)
      clear hcz
      go_wp2_with fail
      have lw0 := HB.out
      refine wp_region_held_drew (S := fun w1 => w1.cell? ⟨b, off + i, none⟩ = some (.int .i64 (z i))) (by kernel_rfl) ?Sr8 (fun hH0 => ?Br8)
      case Sr8 => (exact (KZ.out _ HB.out.drew).1)
      refine wpAnyH_take (i := 0) (oi := { dst := some 23, op := Go.Op.move (Go.Operand.tmp 3), type := 23, pos := "law.go:253", after := #[], guard := none }) (v := ?vr80) rfl (by kernel_rfl) (by kernel_rfl) (by kernel_rfl) (fun _ _ _ h => h) (Or.inl ⟨by rfl, ?hyr80⟩) (by assumption) ?restr80
      case hyr80 => (intro w hSw; (try dsimp only at hSw); go_simp; try with_reducible rfl)
      try simp only [Act.put, List.setIfInBounds_toArray, List.set_cons_zero, List.set_cons_succ]
      refine wpAnyH_take (i := 2) (oi := { dst := some 25, op := Go.Op.move (Go.Operand.tmp 4), type := 25, pos := "law.go:253", after := #[], guard := none }) (v := ?vr82) rfl (by kernel_rfl) (by kernel_rfl) (by kernel_rfl) (fun _ _ _ h => h) (Or.inl ⟨by rfl, ?hyr82⟩) (by assumption) ?restr82
      case hyr82 => (intro w hSw; (try dsimp only at hSw); go_simp; try with_reducible rfl)
      try simp only [Act.put, List.setIfInBounds_toArray, List.set_cons_zero, List.set_cons_succ]
      refine wpAnyH_ready (rs := [1]) (by kernel_rfl) (by simp) ?_
      refine AllReadyH.cons (o := { dst := some 24, op := Go.Op.call { callee := Go.Callee.value (Go.Operand.func 10), args := #[Go.Operand.tmp 23], argTypes := #[23] }, type := 3, pos := "law.go:253", after := #[{ on := 0, ground := Go.Ground.data }], guard := none }) rfl (fun K hK => ?_) ?nilr81
      case nilr81 => exact AllReadyH.nil
      go_simp
      (refine (CM1.out _ (by (repeat (first | (with_reducible exact Below.refl _ _) | (with_reducible refine Below.drew ?_))))).mono ?_)
      rintro e wa ⟨rfl, hsa, hfa⟩
      go_wp2_with fail
      refine hK.out _ _ ?Sr81 (fun hH1 => ?restr81)
      case Sr81 => (exact (KZ.out _ (lw0.trans hfa.low)).1)
      clear hK K
      try simp only [Act.put, List.setIfInBounds_toArray, List.set_cons_zero, List.set_cons_succ]
      refine wpAnyH_ready (rs := [3]) (by kernel_rfl) (by simp) ?_
      refine AllReadyH.cons (o := { dst := some 26, op := Go.Op.call { callee := Go.Callee.value (Go.Operand.func 11), args := #[Go.Operand.tmp 25], argTypes := #[25] }, type := 3, pos := "law.go:253", after := #[{ on := 2, ground := Go.Ground.data }, { on := 1, ground := Go.Ground.chain }], guard := none }) rfl (fun K hK => ?_) ?nilr83
      case nilr83 => exact AllReadyH.nil
      go_simp
      (refine (pmark2 F.out hM hsa hfa _ (by (repeat (first | (with_reducible exact Below.refl _ _) | (with_reducible refine Below.drew ?_))))).mono ?_)
      rintro e wb ⟨rfl, pb, hFb, hbb⟩
      have lwb := lw0.trans hbb
      go_wp2_with fail
      refine hK.out _ _ ?Sr83 (fun hH2 => ?restr83)
      case Sr83 => (exact (KZ.out _ lwb).1)
      clear hK K
      try simp only [Act.put, List.setIfInBounds_toArray, List.set_cons_zero, List.set_cons_succ]
      refine wpAnyH_take (i := 4) (oi := { dst := some 27, op := Go.Op.binOp Go.BinOp.neq 3 (Go.Operand.tmp 24) (Go.Operand.tmp 26) 3, type := 4, pos := "law.go:253", after := #[{ on := 1, ground := Go.Ground.data }, { on := 3, ground := Go.Ground.data }], guard := none }) (v := ?vr84) rfl (by kernel_rfl) (by kernel_rfl) (by kernel_rfl) (fun _ _ _ h => h) (Or.inl ⟨by rfl, ?hyr84⟩) (by assumption) ?restr84
      case hyr84 => (intro w hSw; (try dsimp only at hSw); go_simp; try with_reducible rfl)
      try simp only [Act.put, List.setIfInBounds_toArray, List.set_cons_zero, List.set_cons_succ]
      refine wpAnyH_take (i := 5) (oi := { dst := some 28, op := Go.Op.move (Go.Operand.tmp 27), type := 4, pos := "law.go:253", after := #[{ on := 4, ground := Go.Ground.data }, { on := 3, ground := Go.Ground.chain }], guard := none }) (v := ?vr85) rfl (by kernel_rfl) (by kernel_rfl) (by kernel_rfl) (fun _ _ _ h => h) (Or.inl ⟨by rfl, ?hyr85⟩) (by assumption) ?restr85
      case hyr85 => (intro w hSw; (try dsimp only at hSw); go_simp; try with_reducible rfl)
      try simp only [Act.put, List.setIfInBounds_toArray, List.set_cons_zero, List.set_cons_succ]
      refine wpAnyH_take (i := 6) (oi := { dst := some 29, op := Go.Op.move (Go.Operand.tmp 3), type := 23, pos := "law.go:253", after := #[{ on := 5, ground := Go.Ground.guard }], guard := some (5, false) }) (v := ?vr86) rfl (by kernel_rfl) (by kernel_rfl) (by kernel_rfl) (fun _ _ _ h => h) (Or.inl ⟨by rfl, ?hyr86⟩) (by assumption) ?restr86
      case hyr86 => (intro w hSw; (try dsimp only at hSw); go_simp; try with_reducible rfl)
      try simp only [Act.put, List.setIfInBounds_toArray, List.set_cons_zero, List.set_cons_succ]
      refine wpAnyH_take (i := 7) (oi := { dst := some 30, op := Go.Op.move (Go.Operand.tmp 0), type := 22, pos := "law.go:253", after := #[{ on := 5, ground := Go.Ground.guard }], guard := some (5, false) }) (v := ?vr87) rfl (by kernel_rfl) (by kernel_rfl) (by kernel_rfl) (fun _ _ _ h => h) (Or.inl ⟨by rfl, ?hyr87⟩) (by assumption) ?restr87
      case hyr87 => (intro w hSw; (try dsimp only at hSw); go_simp; try with_reducible rfl)
      try simp only [Act.put, List.setIfInBounds_toArray, List.set_cons_zero, List.set_cons_succ]
      refine wpAnyH_take (i := 8) (oi := { dst := some 31, op := Go.Op.move (Go.Operand.tmp 5), type := 3, pos := "law.go:253", after := #[{ on := 5, ground := Go.Ground.guard }], guard := some (5, false) }) (v := ?vr88) rfl (by kernel_rfl) (by kernel_rfl) (by kernel_rfl) (fun _ _ _ h => h) (Or.inl ⟨by rfl, ?hyr88⟩) (by assumption) ?restr88
      case hyr88 => (intro w hSw; (try dsimp only at hSw); go_simp; try with_reducible rfl)
      try simp only [Act.put, List.setIfInBounds_toArray, List.set_cons_zero, List.set_cons_succ]
      refine wpAnyH_take (i := 9) (oi := { dst := some 32, op := Go.Op.indexAddr 22 (Go.Operand.tmp 30) (Go.Operand.tmp 31), type := 0, pos := "law.go:253", after := #[{ on := 7, ground := Go.Ground.data }, { on := 8, ground := Go.Ground.data }, { on := 5, ground := Go.Ground.guard }], guard := some (5, false) }) (v := ?vr89) rfl (by kernel_rfl) (by kernel_rfl) (by kernel_rfl) (fun _ _ _ h => h) (Or.inl ⟨by rfl, ?hyr89⟩) (by assumption) ?restr89
      case hyr89 => (intro w hSw; (try dsimp only at hSw); go_simp; try with_reducible rfl)
      try simp only [Act.put, List.setIfInBounds_toArray, List.set_cons_zero, List.set_cons_succ]
      refine wpAnyH_take (i := 10) (oi := { dst := some 33, op := Go.Op.load 3 (Go.Operand.tmp 32), type := 3, pos := "law.go:253", after := #[{ on := 9, ground := Go.Ground.data }, { on := 5, ground := Go.Ground.guard }], guard := some (5, false) }) (v := ?vr810) rfl (by kernel_rfl) (by kernel_rfl) (by kernel_rfl) (fun _ _ _ h => h) (Or.inl ⟨by rfl, ?hyr810⟩) (by assumption) ?restr810
      case hyr810 => (intro w hSw; (try dsimp only at hSw); go_simp; try with_reducible rfl)
      try simp only [Act.put, List.setIfInBounds_toArray, List.set_cons_zero, List.set_cons_succ]
      refine wpAnyH_take (i := 12) (oi := { dst := some 35, op := Go.Op.move (Go.Operand.tmp 4), type := 25, pos := "law.go:253", after := #[{ on := 5, ground := Go.Ground.guard }], guard := some (5, false) }) (v := ?vr812) rfl (by kernel_rfl) (by kernel_rfl) (by kernel_rfl) (fun _ _ _ h => h) (Or.inl ⟨by rfl, ?hyr812⟩) (by assumption) ?restr812
      case hyr812 => (intro w hSw; (try dsimp only at hSw); go_simp; try with_reducible rfl)
      try simp only [Act.put, List.setIfInBounds_toArray, List.set_cons_zero, List.set_cons_succ]
      refine wpAnyH_take (i := 13) (oi := { dst := some 36, op := Go.Op.move (Go.Operand.tmp 0), type := 22, pos := "law.go:253", after := #[{ on := 5, ground := Go.Ground.guard }], guard := some (5, false) }) (v := ?vr813) rfl (by kernel_rfl) (by kernel_rfl) (by kernel_rfl) (fun _ _ _ h => h) (Or.inl ⟨by rfl, ?hyr813⟩) (by assumption) ?restr813
      case hyr813 => (intro w hSw; (try dsimp only at hSw); go_simp; try with_reducible rfl)
      try simp only [Act.put, List.setIfInBounds_toArray, List.set_cons_zero, List.set_cons_succ]
      refine wpAnyH_take (i := 14) (oi := { dst := some 37, op := Go.Op.move (Go.Operand.tmp 5), type := 3, pos := "law.go:253", after := #[{ on := 5, ground := Go.Ground.guard }], guard := some (5, false) }) (v := ?vr814) rfl (by kernel_rfl) (by kernel_rfl) (by kernel_rfl) (fun _ _ _ h => h) (Or.inl ⟨by rfl, ?hyr814⟩) (by assumption) ?restr814
      case hyr814 => (intro w hSw; (try dsimp only at hSw); go_simp; try with_reducible rfl)
      try simp only [Act.put, List.setIfInBounds_toArray, List.set_cons_zero, List.set_cons_succ]
      refine wpAnyH_take (i := 15) (oi := { dst := some 38, op := Go.Op.indexAddr 22 (Go.Operand.tmp 36) (Go.Operand.tmp 37), type := 0, pos := "law.go:253", after := #[{ on := 13, ground := Go.Ground.data }, { on := 14, ground := Go.Ground.data }, { on := 5, ground := Go.Ground.guard }], guard := some (5, false) }) (v := ?vr815) rfl (by kernel_rfl) (by kernel_rfl) (by kernel_rfl) (fun _ _ _ h => h) (Or.inl ⟨by rfl, ?hyr815⟩) (by assumption) ?restr815
      case hyr815 => (intro w hSw; (try dsimp only at hSw); go_simp; try with_reducible rfl)
      try simp only [Act.put, List.setIfInBounds_toArray, List.set_cons_zero, List.set_cons_succ]
      refine wpAnyH_take (i := 16) (oi := { dst := some 39, op := Go.Op.load 3 (Go.Operand.tmp 38), type := 3, pos := "law.go:253", after := #[{ on := 15, ground := Go.Ground.data }, { on := 5, ground := Go.Ground.guard }], guard := some (5, false) }) (v := ?vr816) rfl (by kernel_rfl) (by kernel_rfl) (by kernel_rfl) (fun _ _ _ h => h) (Or.inl ⟨by rfl, ?hyr816⟩) (by assumption) ?restr816
      case hyr816 => (intro w hSw; (try dsimp only at hSw); go_simp; try with_reducible rfl)
      try simp only [Act.put, List.setIfInBounds_toArray, List.set_cons_zero, List.set_cons_succ]
      refine wpAnyH_ready (rs := [11]) (by kernel_rfl) (by simp) ?_
      refine AllReadyH.cons (o := { dst := some 34, op := Go.Op.call { callee := Go.Callee.value (Go.Operand.func 12), args := #[Go.Operand.tmp 29, Go.Operand.tmp 33], argTypes := #[23, 3] }, type := 3, pos := "law.go:253", after := #[{ on := 6, ground := Go.Ground.data }, { on := 10, ground := Go.Ground.data }, { on := 5, ground := Go.Ground.chain }, { on := 5, ground := Go.Ground.guard }], guard := some (5, false) }) rfl (fun K hK => ?_) ?nilr811
      case nilr811 => exact AllReadyH.nil
      go_simp
      (refine (pfresh1 hFb hC _ _ (by (repeat (first | (with_reducible exact Below.refl _ _) | (with_reducible refine Below.drew ?_))))).mono ?_)
      rintro e wc ⟨rfl, hsc, hfc⟩
      go_wp2_with fail
      refine hK.out _ _ ?Sr811 (fun hH3 => ?restr811)
      case Sr811 => (exact (KZ.out _ (lwb.trans hfc.low)).1)
      clear hK K
      try simp only [Act.put, List.setIfInBounds_toArray, List.set_cons_zero, List.set_cons_succ]
      refine wpAnyH_ready (rs := [17]) (by kernel_rfl) (by simp) ?_
      refine AllReadyH.cons (o := { dst := some 40, op := Go.Op.call { callee := Go.Callee.value (Go.Operand.func 13), args := #[Go.Operand.tmp 35, Go.Operand.tmp 39], argTypes := #[25, 3] }, type := 3, pos := "law.go:253", after := #[{ on := 12, ground := Go.Ground.data }, { on := 16, ground := Go.Ground.data }, { on := 11, ground := Go.Ground.chain }, { on := 5, ground := Go.Ground.guard }], guard := some (5, false) }) rfl (fun K hK => ?_) ?nilr817
      case nilr817 => exact AllReadyH.nil
      go_simp
      (refine (pfresh2 hFb hC _ hsc hfc _ (by (repeat (first | (with_reducible exact Below.refl _ _) | (with_reducible refine Below.drew ?_))))).mono ?_)
      rintro e wd ⟨rfl, pd, hFd, hbd⟩
      have lwd := lwb.trans hbd
      go_wp2_with fail
      refine hK.out _ _ ?Sr817 (fun hH4 => ?restr817)
      case Sr817 => (exact (KZ.out _ lwd).1)
      clear hK K
      try simp only [Act.put, List.setIfInBounds_toArray, List.set_cons_zero, List.set_cons_succ]
      refine wpAnyH_less (S' := fun w' => w'.cell? ⟨b, off + i, none⟩ = some (.int .i64 (z i)) ∧ w'.cell? ⟨rb, 0, none⟩ = some (.int .i64 ((C ++ List.replicate (fresh (z i)) CV.zero).length : Int))) (fun _ h => h.1) ?_
      have hHX := And.intro hH4 hFd.boxN.1
      clear hH4
      refine wpAnyH_take (i := 18) (oi := { dst := some 41, op := Go.Op.binOp Go.BinOp.neq 3 (Go.Operand.tmp 34) (Go.Operand.tmp 40) 3, type := 4, pos := "law.go:253", after := #[{ on := 11, ground := Go.Ground.data }, { on := 17, ground := Go.Ground.data }, { on := 5, ground := Go.Ground.guard }], guard := some (5, false) }) (v := ?vr818) rfl (by kernel_rfl) (by kernel_rfl) (by kernel_rfl) (fun _ _ _ h => h) (Or.inl ⟨by rfl, ?hyr818⟩) (by assumption) ?restr818
      case hyr818 => (intro w hSw; (try dsimp only at hSw); go_simp; try with_reducible rfl)
      try simp only [Act.put, List.setIfInBounds_toArray, List.set_cons_zero, List.set_cons_succ]
      refine wpAnyH_take (i := 19) (oi := { dst := some 42, op := Go.Op.pick (Go.Operand.tmp 28) (Go.Operand.const (Go.Value.bool true)) (Go.Operand.tmp 41), type := 4, pos := "law.go:253", after := #[{ on := 5, ground := Go.Ground.data }, { on := 18, ground := Go.Ground.data }], guard := none }) (v := ?vr819) rfl (by kernel_rfl) (by kernel_rfl) (by kernel_rfl) (fun _ _ _ h => h) (Or.inl ⟨by rfl, ?hyr819⟩) (by assumption) ?restr819
      case hyr819 => (intro w hSw; (try dsimp only at hSw); go_simp; try with_reducible rfl)
      try simp only [Act.put, List.setIfInBounds_toArray, List.set_cons_zero, List.set_cons_succ]
      refine wpAnyH_take (i := 20) (oi := { dst := some 43, op := Go.Op.move (Go.Operand.tmp 42), type := 4, pos := "law.go:253", after := #[{ on := 19, ground := Go.Ground.data }, { on := 17, ground := Go.Ground.chain }], guard := none }) (v := ?vr820) rfl (by kernel_rfl) (by kernel_rfl) (by kernel_rfl) (fun _ _ _ h => h) (Or.inl ⟨by rfl, ?hyr820⟩) (by assumption) ?restr820
      case hyr820 => (intro w hSw; (try dsimp only at hSw); go_simp; try with_reducible rfl)
      try simp only [Act.put, List.setIfInBounds_toArray, List.set_cons_zero, List.set_cons_succ]
      refine wpAnyH_take (i := 21) (oi := { dst := some 44, op := Go.Op.move (Go.Operand.tmp 3), type := 23, pos := "law.go:253", after := #[{ on := 20, ground := Go.Ground.guard }], guard := some (20, false) }) (v := ?vr821) rfl (by kernel_rfl) (by kernel_rfl) (by kernel_rfl) (fun _ _ _ h => h) (Or.inl ⟨by rfl, ?hyr821⟩) (by assumption) ?restr821
      case hyr821 => (intro w hSw; (try dsimp only at hSw); go_simp; try with_reducible rfl)
      try simp only [Act.put, List.setIfInBounds_toArray, List.set_cons_zero, List.set_cons_succ]
      refine wpAnyH_take (i := 23) (oi := { dst := some 46, op := Go.Op.move (Go.Operand.tmp 4), type := 25, pos := "law.go:253", after := #[{ on := 20, ground := Go.Ground.guard }], guard := some (20, false) }) (v := ?vr823) rfl (by kernel_rfl) (by kernel_rfl) (by kernel_rfl) (fun _ _ _ h => h) (Or.inl ⟨by rfl, ?hyr823⟩) (by assumption) ?restr823
      case hyr823 => (intro w hSw; (try dsimp only at hSw); go_simp; try with_reducible rfl)
      try simp only [Act.put, List.setIfInBounds_toArray, List.set_cons_zero, List.set_cons_succ]
      refine wpAnyH_take (i := 24) (oi := { dst := some 47, op := Go.Op.nilCheck (Go.Operand.tmp 46), type := 0, pos := "law.go:253", after := #[{ on := 23, ground := Go.Ground.data }, { on := 20, ground := Go.Ground.guard }], guard := some (20, false) }) (v := ?vr824) rfl (by kernel_rfl) (by kernel_rfl) (by kernel_rfl) (fun _ _ _ h => h) (Or.inl ⟨by rfl, ?hyr824⟩) (by assumption) ?restr824
      case hyr824 => (intro w hSw; (try dsimp only at hSw); go_simp; try with_reducible rfl)
      try simp only [Act.put, List.setIfInBounds_toArray, List.set_cons_zero, List.set_cons_succ]
      refine wpAnyH_take (i := 25) (oi := { dst := some 48, op := Go.Op.fieldAddr 35 (Go.Operand.tmp 47) 0, type := 0, pos := "law.go:253", after := #[{ on := 24, ground := Go.Ground.data }, { on := 20, ground := Go.Ground.guard }], guard := some (20, false) }) (v := ?vr825) rfl (by kernel_rfl) (by kernel_rfl) (by kernel_rfl) (fun _ _ _ h => h) (Or.inl ⟨by rfl, ?hyr825⟩) (by assumption) ?restr825
      case hyr825 => (intro w hSw; (try dsimp only at hSw); go_simp; try with_reducible rfl)
      try simp only [Act.put, List.setIfInBounds_toArray, List.set_cons_zero, List.set_cons_succ]
      refine wpAnyH_take (i := 26) (oi := { dst := some 49, op := Go.Op.fieldAddr 32 (Go.Operand.tmp 48) 0, type := 0, pos := "law.go:253", after := #[{ on := 25, ground := Go.Ground.data }, { on := 20, ground := Go.Ground.guard }], guard := some (20, false) }) (v := ?vr826) rfl (by kernel_rfl) (by kernel_rfl) (by kernel_rfl) (fun _ _ _ h => h) (Or.inl ⟨by rfl, ?hyr826⟩) (by assumption) ?restr826
      case hyr826 => (intro w hSw; (try dsimp only at hSw); go_simp; try with_reducible rfl)
      try simp only [Act.put, List.setIfInBounds_toArray, List.set_cons_zero, List.set_cons_succ]
      refine wpAnyH_take (i := 27) (oi := { dst := some 50, op := Go.Op.load 3 (Go.Operand.tmp 49), type := 3, pos := "law.go:253", after := #[{ on := 26, ground := Go.Ground.data }, { on := 20, ground := Go.Ground.guard }], guard := some (20, false) }) (v := ?vr827) rfl (by kernel_rfl) (by kernel_rfl) (by kernel_rfl) (fun _ _ _ h => h) (Or.inl ⟨by rfl, ?hyr827⟩) (by assumption) ?restr827
      case hyr827 => (intro w hSw; (try dsimp only at hSw); go_simp; try with_reducible rfl)
      try simp only [Act.put, List.setIfInBounds_toArray, List.set_cons_zero, List.set_cons_succ]
      refine wpAnyH_ready (rs := [22]) (by kernel_rfl) (by simp) ?_
      refine AllReadyH.cons (o := { dst := some 45, op := Go.Op.call { callee := Go.Callee.value (Go.Operand.func 14), args := #[Go.Operand.tmp 44], argTypes := #[23] }, type := 3, pos := "law.go:253", after := #[{ on := 21, ground := Go.Ground.data }, { on := 20, ground := Go.Ground.chain }, { on := 20, ground := Go.Ground.guard }], guard := some (20, false) }) rfl (fun K hK => ?_) ?nilr822
      case nilr822 => exact AllReadyH.nil
      go_simp
      (refine (pvars hFd _ (by (repeat (first | (with_reducible exact Below.refl _ _) | (with_reducible refine Below.drew ?_))))).mono ?_)
      rintro e we ⟨rfl, rfl⟩
      go_wp2_with fail
      refine hK.out _ _ ?Sr822 (fun hH5 => ?restr822)
      case Sr822 => (exact hHX)
      clear hK K
      try simp only [Act.put, List.setIfInBounds_toArray, List.set_cons_zero, List.set_cons_succ]
      refine wpAnyH_take (i := 28) (oi := { dst := some 51, op := Go.Op.binOp Go.BinOp.neq 3 (Go.Operand.tmp 45) (Go.Operand.tmp 50) 3, type := 4, pos := "law.go:253", after := #[{ on := 22, ground := Go.Ground.data }, { on := 27, ground := Go.Ground.data }, { on := 20, ground := Go.Ground.guard }], guard := some (20, false) }) (v := ?vr828) rfl (by kernel_rfl) (by kernel_rfl) (by kernel_rfl) (fun _ _ _ h => h) (Or.inl ⟨by rfl, ?hyr828⟩) (by assumption) ?restr828
      case hyr828 => (intro w hSw; (try dsimp only at hSw); go_simp; try with_reducible rfl)
      try simp only [Act.put, List.setIfInBounds_toArray, List.set_cons_zero, List.set_cons_succ]
      refine wpAnyH_take (i := 29) (oi := { dst := some 52, op := Go.Op.pick (Go.Operand.tmp 43) (Go.Operand.const (Go.Value.bool true)) (Go.Operand.tmp 51), type := 4, pos := "law.go:253", after := #[{ on := 20, ground := Go.Ground.data }, { on := 28, ground := Go.Ground.data }], guard := none }) (v := ?vr829) rfl (by kernel_rfl) (by kernel_rfl) (by kernel_rfl) (fun _ _ _ h => h) (Or.inl ⟨by rfl, ?hyr829⟩) (by assumption) ?restr829
      case hyr829 => (intro w hSw; (try dsimp only at hSw); go_simp; try with_reducible rfl)
      try simp only [Act.put, List.setIfInBounds_toArray, List.set_cons_zero, List.set_cons_succ]
      refine wpAnyH_done (by kernel_rfl) ?_ _
      all_goals
        have FD := Lib.hid hFd
        have LD := Lib.hid lwd
        clear hFd lwd hbb hbd hsa hfa hsc hfc k0 k1 CM1
        go_wp2_with fail
        go_roundw
      all_goals first
        | exact ⟨i + 1, C ++ List.replicate (fresh (z i)) CV.zero, pd, As ++ List.replicate (fresh (z i)) noneT, Hs ++ [⟨([] : List (CV × Nat)).length, C.length, p, C, [], As⟩], by go_num, him, by rw [List.length_append, List.length_singleton]; omega, by have := fresh_len C (z i); omega, (fun g hg => by
            by_cases h0 : Hs = []
            · subst h0; simp at hg; subst hg; exact HN.out rfl
            · rw [List.getElem?_append_left (List.length_pos_iff.mpr h0)] at hg; exact HG.out g hg), (fun h => by simp at h), by first | exact FD.out | exact FD.out.below (Below.refl _ _).drew, by first | exact LD.out | exact LD.out.drew⟩
        | (simp only [intOf]; omega)
        | (simp [intOf]; done)
        | (simp [intOf]; omega)
    · obtain rfl : i = m := by omega
      go_wp2_with fail
      refine (pvars F.out _ (Below.refl _ _)).mono ?_
      rintro e w3 ⟨rfl, rfl⟩
      go_wp2_with fail
      refine (lvar9_any _ _).mono ?_
      rintro e w4 ⟨rfl, h4⟩
      have F4 := Lib.hid (F.out.below h4)
      have B4 := Lib.hid (HB.out.trans (h4.mono HB.out.size))
      clear h4
      go_wp2_with fail
      refine (sunify_var1 F4.out.sm (Int.le_refl _)).mono ?_
      rintro e w5 ⟨rfl, h5⟩
      have F5 := Lib.hid (F4.out.below h5)
      have B5 := Lib.hid (B4.out.trans (h5.mono B4.out.size))
      clear h5
      go_wp2_with fail
      refine (lvar9_any _ _).mono ?_
      rintro e w6 ⟨rfl, h6⟩
      have F6 := Lib.hid (F5.out.below h6)
      have B6 := Lib.hid (B5.out.trans (h6.mono B5.out.size))
      clear h6
      go_wp2_with fail
      refine (sunify_var2 F6.out.sm (Int.le_refl _)).mono ?_
      rintro e w7 ⟨rfl, h7⟩
      have F7 := Lib.hid (F6.out.below h7)
      have B7 := Lib.hid (B6.out.trans (h7.mono B6.out.size))
      clear h7 F F4 F5 F6 B4 B5 B6 HB
      by_cases hC0 : 0 < C.length
      · obtain ⟨nc, hnc⟩ : ∃ nc, C.length = nc + 1 := ⟨C.length - 1, by omega⟩
        obtain ⟨cv, hcv⟩ := at_of_lt (C := C) (n := nc) (by omega)
        have hcb : cv.b = false := by rw [F7.out.cl.bound hcv]; rfl
        have HNC := Lib.hid hnc
        have HCV := Lib.hid hcv
        have HCB := Lib.hid hcb
        have hgt : (C.length : Int) > 0 := by omega
        have hsub : (C.length : Int) - 1 = (nc : Int) := by omega
        have FT := fun W => (fieldT 1 (nc : Int) ⟨#[]⟩ none 0 0 W).1
        clear hnc hcv hcb
        go_wp2_with fail
        refine (lvar9_any _ _).mono ?_
        rintro e w8 ⟨rfl, h8⟩
        have F8 := Lib.hid (F7.out.below h8)
        have B8 := Lib.hid (B7.out.trans (h8.mono B7.out.size))
        clear h8
        go_wp2_with fail
        refine (sres_var F8.out.sm HCV.out HCB.out).mono ?_
        rintro e w9 ⟨rfl, h9⟩
        have F0 := Lib.hid (F8.out.below h9)
        have B0 := Lib.hid (B8.out.trans (h9.mono B8.out.size))
        clear h9 F8 B8 F7 B7
        go_wp2_with fail
        go_loopw [11] (fun iv wr => ∃ (j : Nat) (C : List CV) (R : List (CV × Nat)) (p : PV) (L : Bs) (As : List T) (Hs : List MK), iv = .int .i64 ((j : Int) - 1) ∧ j ≤ i ∧ j ≤ Hs.length ∧ Hs.length ≤ 1000 ∧ C.length ≤ 100000 ∧ R.length ≤ 100000 ∧ (∀ g, Hs[0]? = some g → g.C = []) ∧ (j = 0 → 0 < i → C = []) ∧ LS w.heap.size wr w.heap.size rb C R p L As Hs ∧ Below w.heap.size w wr) (fun iv _ => (intOf iv + 1).toNat)
        case atStart => exact ⟨i, C, [], p, [], As, Hs, rfl, Nat.le_refl _, by omega, by omega, by omega, by simp, HG.out, (fun h1 h2 => by omega), F0.out, B0.out⟩
        case round =>
          clear F0 B0 HN HG HL
          obtain ⟨j, C, R, p, L, As, Hs, rfl, hji, hjH, hH, hC, hR, hg0, hend, hf, hb⟩ := hrel
          have F := Lib.hid hf
          have HB := Lib.hid hb
          have HG := Lib.hid hg0
          have HE := Lib.hid hend
          clear hf hb hg0 hend
          rcases Nat.eq_zero_or_pos j with h0 | h0
          · subst h0
            have hge : ¬ ((((0 : Nat) : Int) - 1) ≥ 0) := by omega
            by_cases hm0 : i = 0
            · subst hm0
              go_wp2_with fail
              go_ret
              exact ⟨rfl, HB.out⟩
            · have hmb : ((i : Int) == 0) = false := beq_eq_false_iff_ne.mpr (by omega)
              obtain rfl := HE.out rfl (by omega)
              go_wp2_with fail
              refine (pvars F.out _ (Below.refl _ _)).mono ?_
              rintro e w3 ⟨rfl, rfl⟩
              go_wp2_with fail
              go_ret
              exact ⟨rfl, HB.out⟩
          · obtain ⟨k, rfl⟩ : ∃ k, j = k + 1 := ⟨j - 1, by omega⟩
            have ek : (((k + 1 : Nat) : Int) - 1) = (k : Int) := by omega
            rw [ek]
            obtain ⟨g, hg⟩ : ∃ g, Hs[k]? = some g := ⟨_, List.getElem?_eq_getElem (by omega)⟩
            have HK := Lib.hid hg
            have hge : (k : Int) ≥ 0 := by omega
            have CU1 := Lib.hid (fun W hW => pundo1 F.out (by omega) (by omega) (by omega) hg W hW)
            have hM : Hs.length ≤ 1000000 := by omega
            have lw0 := HB.out
            clear hg ek
            go_wp2_with fail
            refine wp_region_held_drew (S := fun w1 => True) (by kernel_rfl) ?Sa (fun hH0 => ?Ba)
            case Sa => (trivial)
            refine wpAnyH_take (i := 0) (oi := { dst := some 99, op := Go.Op.move (Go.Operand.tmp 3), type := 23, pos := "law.go:264", after := #[], guard := none }) (v := ?va0) rfl (by kernel_rfl) (by kernel_rfl) (by kernel_rfl) (fun _ _ _ h => h) (Or.inl ⟨by rfl, ?hya0⟩) (by assumption) ?resta0
            case hya0 => (intro w hSw; (try dsimp only at hSw); go_simp; try with_reducible rfl)
            try simp only [Act.put, List.setIfInBounds_toArray, List.set_cons_zero, List.set_cons_succ]
            refine wpAnyH_take (i := 1) (oi := { dst := some 100, op := Go.Op.move (Go.Operand.tmp 11), type := 3, pos := "law.go:264", after := #[], guard := none }) (v := ?va1) rfl (by kernel_rfl) (by kernel_rfl) (by kernel_rfl) (fun _ _ _ h => h) (Or.inl ⟨by rfl, ?hya1⟩) (by assumption) ?resta1
            case hya1 => (intro w hSw; (try dsimp only at hSw); go_simp; try with_reducible rfl)
            try simp only [Act.put, List.setIfInBounds_toArray, List.set_cons_zero, List.set_cons_succ]
            refine wpAnyH_ready (rs := [2]) (by kernel_rfl) (by simp) ?_
            refine AllReadyH.cons (o := { dst := some 101, op := Go.Op.call { callee := Go.Callee.value (Go.Operand.func 18), args := #[Go.Operand.tmp 99, Go.Operand.tmp 100], argTypes := #[23, 3] }, type := 36, pos := "law.go:264", after := #[{ on := 0, ground := Go.Ground.data }, { on := 1, ground := Go.Ground.data }], guard := none }) rfl (fun K hK => ?_) ?nila2
            case nila2 => exact AllReadyH.nil
            go_simp
            (refine (CU1.out _ (by (repeat (first | (with_reducible exact Below.refl _ _) | (with_reducible refine Below.drew ?_))))).mono ?_)
            rintro e wa ⟨rfl, hsa, hfa⟩
            go_wp2_with fail
            refine hK.out _ _ ?Sa2 (fun hH1 => ?resta2)
            case Sa2 => (trivial)
            clear hK K
            try simp only [Act.put, List.setIfInBounds_toArray, List.set_cons_zero, List.set_cons_succ]
            refine wpAnyH_take (i := 3) (oi := { dst := some 102, op := Go.Op.binOp Go.BinOp.neq 36 (Go.Operand.tmp 101) (Go.Operand.const (Go.Value.int Go.IntKind.i64 0)) 36, type := 4, pos := "law.go:264", after := #[{ on := 2, ground := Go.Ground.data }], guard := none }) (v := ?va3) rfl (by kernel_rfl) (by kernel_rfl) (by kernel_rfl) (fun _ _ _ h => h) (Or.inl ⟨by rfl, ?hya3⟩) (by assumption) ?resta3
            case hya3 => (intro w hSw; (try dsimp only at hSw); go_simp; try with_reducible rfl)
            try simp only [Act.put, List.setIfInBounds_toArray, List.set_cons_zero, List.set_cons_succ]
            refine wpAnyH_take (i := 4) (oi := { dst := some 103, op := Go.Op.move (Go.Operand.tmp 102), type := 4, pos := "law.go:264", after := #[{ on := 3, ground := Go.Ground.data }, { on := 2, ground := Go.Ground.chain }], guard := none }) (v := ?va4) rfl (by kernel_rfl) (by kernel_rfl) (by kernel_rfl) (fun _ _ _ h => h) (Or.inl ⟨by rfl, ?hya4⟩) (by assumption) ?resta4
            case hya4 => (intro w hSw; (try dsimp only at hSw); go_simp; try with_reducible rfl)
            try simp only [Act.put, List.setIfInBounds_toArray, List.set_cons_zero, List.set_cons_succ]
            refine wpAnyH_take (i := 5) (oi := { dst := some 104, op := Go.Op.move (Go.Operand.tmp 4), type := 25, pos := "law.go:264", after := #[{ on := 4, ground := Go.Ground.guard }], guard := some (4, false) }) (v := ?va5) rfl (by kernel_rfl) (by kernel_rfl) (by kernel_rfl) (fun _ _ _ h => h) (Or.inl ⟨by rfl, ?hya5⟩) (by assumption) ?resta5
            case hya5 => (intro w hSw; (try dsimp only at hSw); go_simp; try with_reducible rfl)
            try simp only [Act.put, List.setIfInBounds_toArray, List.set_cons_zero, List.set_cons_succ]
            refine wpAnyH_take (i := 6) (oi := { dst := some 105, op := Go.Op.move (Go.Operand.tmp 11), type := 3, pos := "law.go:264", after := #[{ on := 4, ground := Go.Ground.guard }], guard := some (4, false) }) (v := ?va6) rfl (by kernel_rfl) (by kernel_rfl) (by kernel_rfl) (fun _ _ _ h => h) (Or.inl ⟨by rfl, ?hya6⟩) (by assumption) ?resta6
            case hya6 => (intro w hSw; (try dsimp only at hSw); go_simp; try with_reducible rfl)
            try simp only [Act.put, List.setIfInBounds_toArray, List.set_cons_zero, List.set_cons_succ]
            refine wpAnyH_ready (rs := [7]) (by kernel_rfl) (by simp) ?_
            refine AllReadyH.cons (o := { dst := some 106, op := Go.Op.call { callee := Go.Callee.value (Go.Operand.func 19), args := #[Go.Operand.tmp 104, Go.Operand.tmp 105], argTypes := #[25, 3] }, type := 36, pos := "law.go:264", after := #[{ on := 5, ground := Go.Ground.data }, { on := 6, ground := Go.Ground.data }, { on := 4, ground := Go.Ground.chain }, { on := 4, ground := Go.Ground.guard }], guard := some (4, false) }) rfl (fun K hK => ?_) ?nila7
            case nila7 => exact AllReadyH.nil
            go_simp
            (refine (pundo2 F.out hM HK.out hsa hfa _ (by (repeat (first | (with_reducible exact Below.refl _ _) | (with_reducible refine Below.drew ?_))))).mono ?_)
            rintro e wd ⟨rfl, pd, hFd, hbd⟩
            have lwd := lw0.trans hbd
            go_wp2_with fail
            refine hK.out _ _ ?Sa7 (fun hH2 => ?resta7)
            case Sa7 => (trivial)
            clear hK K
            try simp only [Act.put, List.setIfInBounds_toArray, List.set_cons_zero, List.set_cons_succ]
            refine wpAnyH_less (S' := fun w' => w'.cell? ⟨rb, 0, none⟩ = some (.int .i64 (g.C.length : Int))) (fun _ _ => trivial) ?_
            have hHX := hFd.boxN.1
            refine wpAnyH_take (i := 8) (oi := { dst := some 107, op := Go.Op.binOp Go.BinOp.neq 36 (Go.Operand.tmp 106) (Go.Operand.const (Go.Value.int Go.IntKind.i64 0)) 36, type := 4, pos := "law.go:264", after := #[{ on := 7, ground := Go.Ground.data }, { on := 4, ground := Go.Ground.guard }], guard := some (4, false) }) (v := ?va8) rfl (by kernel_rfl) (by kernel_rfl) (by kernel_rfl) (fun _ _ _ h => h) (Or.inl ⟨by rfl, ?hya8⟩) (by assumption) ?resta8
            case hya8 => (intro w hSw; (try dsimp only at hSw); go_simp; try with_reducible rfl)
            try simp only [Act.put, List.setIfInBounds_toArray, List.set_cons_zero, List.set_cons_succ]
            refine wpAnyH_take (i := 9) (oi := { dst := some 108, op := Go.Op.pick (Go.Operand.tmp 103) (Go.Operand.const (Go.Value.bool true)) (Go.Operand.tmp 107), type := 4, pos := "law.go:264", after := #[{ on := 4, ground := Go.Ground.data }, { on := 8, ground := Go.Ground.data }], guard := none }) (v := ?va9) rfl (by kernel_rfl) (by kernel_rfl) (by kernel_rfl) (fun _ _ _ h => h) (Or.inl ⟨by rfl, ?hya9⟩) (by assumption) ?resta9
            case hya9 => (intro w hSw; (try dsimp only at hSw); go_simp; try with_reducible rfl)
            try simp only [Act.put, List.setIfInBounds_toArray, List.set_cons_zero, List.set_cons_succ]
            refine wpAnyH_take (i := 10) (oi := { dst := some 109, op := Go.Op.move (Go.Operand.tmp 108), type := 4, pos := "law.go:264", after := #[{ on := 9, ground := Go.Ground.data }, { on := 7, ground := Go.Ground.chain }], guard := none }) (v := ?va10) rfl (by kernel_rfl) (by kernel_rfl) (by kernel_rfl) (fun _ _ _ h => h) (Or.inl ⟨by rfl, ?hya10⟩) (by assumption) ?resta10
            case hya10 => (intro w hSw; (try dsimp only at hSw); go_simp; try with_reducible rfl)
            try simp only [Act.put, List.setIfInBounds_toArray, List.set_cons_zero, List.set_cons_succ]
            refine wpAnyH_take (i := 11) (oi := { dst := some 110, op := Go.Op.move (Go.Operand.tmp 3), type := 23, pos := "law.go:264", after := #[{ on := 10, ground := Go.Ground.guard }], guard := some (10, false) }) (v := ?va11) rfl (by kernel_rfl) (by kernel_rfl) (by kernel_rfl) (fun _ _ _ h => h) (Or.inl ⟨by rfl, ?hya11⟩) (by assumption) ?resta11
            case hya11 => (intro w hSw; (try dsimp only at hSw); go_simp; try with_reducible rfl)
            try simp only [Act.put, List.setIfInBounds_toArray, List.set_cons_zero, List.set_cons_succ]
            refine wpAnyH_take (i := 13) (oi := { dst := some 112, op := Go.Op.move (Go.Operand.tmp 4), type := 25, pos := "law.go:264", after := #[{ on := 10, ground := Go.Ground.guard }], guard := some (10, false) }) (v := ?va13) rfl (by kernel_rfl) (by kernel_rfl) (by kernel_rfl) (fun _ _ _ h => h) (Or.inl ⟨by rfl, ?hya13⟩) (by assumption) ?resta13
            case hya13 => (intro w hSw; (try dsimp only at hSw); go_simp; try with_reducible rfl)
            try simp only [Act.put, List.setIfInBounds_toArray, List.set_cons_zero, List.set_cons_succ]
            refine wpAnyH_take (i := 14) (oi := { dst := some 113, op := Go.Op.nilCheck (Go.Operand.tmp 112), type := 0, pos := "law.go:264", after := #[{ on := 13, ground := Go.Ground.data }, { on := 10, ground := Go.Ground.guard }], guard := some (10, false) }) (v := ?va14) rfl (by kernel_rfl) (by kernel_rfl) (by kernel_rfl) (fun _ _ _ h => h) (Or.inl ⟨by rfl, ?hya14⟩) (by assumption) ?resta14
            case hya14 => (intro w hSw; (try dsimp only at hSw); go_simp; try with_reducible rfl)
            try simp only [Act.put, List.setIfInBounds_toArray, List.set_cons_zero, List.set_cons_succ]
            refine wpAnyH_take (i := 15) (oi := { dst := some 114, op := Go.Op.fieldAddr 35 (Go.Operand.tmp 113) 0, type := 0, pos := "law.go:264", after := #[{ on := 14, ground := Go.Ground.data }, { on := 10, ground := Go.Ground.guard }], guard := some (10, false) }) (v := ?va15) rfl (by kernel_rfl) (by kernel_rfl) (by kernel_rfl) (fun _ _ _ h => h) (Or.inl ⟨by rfl, ?hya15⟩) (by assumption) ?resta15
            case hya15 => (intro w hSw; (try dsimp only at hSw); go_simp; try with_reducible rfl)
            try simp only [Act.put, List.setIfInBounds_toArray, List.set_cons_zero, List.set_cons_succ]
            refine wpAnyH_take (i := 16) (oi := { dst := some 115, op := Go.Op.fieldAddr 32 (Go.Operand.tmp 114) 0, type := 0, pos := "law.go:264", after := #[{ on := 15, ground := Go.Ground.data }, { on := 10, ground := Go.Ground.guard }], guard := some (10, false) }) (v := ?va16) rfl (by kernel_rfl) (by kernel_rfl) (by kernel_rfl) (fun _ _ _ h => h) (Or.inl ⟨by rfl, ?hya16⟩) (by assumption) ?resta16
            case hya16 => (intro w hSw; (try dsimp only at hSw); go_simp; try with_reducible rfl)
            try simp only [Act.put, List.setIfInBounds_toArray, List.set_cons_zero, List.set_cons_succ]
            refine wpAnyH_take (i := 17) (oi := { dst := some 116, op := Go.Op.load 3 (Go.Operand.tmp 115), type := 3, pos := "law.go:264", after := #[{ on := 16, ground := Go.Ground.data }, { on := 10, ground := Go.Ground.guard }], guard := some (10, false) }) (v := ?va17) rfl (by kernel_rfl) (by kernel_rfl) (by kernel_rfl) (fun _ _ _ h => h) (Or.inl ⟨by rfl, ?hya17⟩) (by assumption) ?resta17
            case hya17 => (intro w hSw; (try dsimp only at hSw); go_simp; try with_reducible rfl)
            try simp only [Act.put, List.setIfInBounds_toArray, List.set_cons_zero, List.set_cons_succ]
            refine wpAnyH_ready (rs := [12]) (by kernel_rfl) (by simp) ?_
            refine AllReadyH.cons (o := { dst := some 111, op := Go.Op.call { callee := Go.Callee.value (Go.Operand.func 14), args := #[Go.Operand.tmp 110], argTypes := #[23] }, type := 3, pos := "law.go:264", after := #[{ on := 11, ground := Go.Ground.data }, { on := 10, ground := Go.Ground.chain }, { on := 10, ground := Go.Ground.guard }], guard := some (10, false) }) rfl (fun K hK => ?_) ?nila12
            case nila12 => exact AllReadyH.nil
            go_simp
            (refine (pvars hFd _ (by (repeat (first | (with_reducible exact Below.refl _ _) | (with_reducible refine Below.drew ?_))))).mono ?_)
            rintro e we ⟨rfl, rfl⟩
            go_wp2_with fail
            refine hK.out _ _ ?Sa12 (fun hH3 => ?resta12)
            case Sa12 => (exact hHX)
            clear hK K
            try simp only [Act.put, List.setIfInBounds_toArray, List.set_cons_zero, List.set_cons_succ]
            refine wpAnyH_take (i := 18) (oi := { dst := some 117, op := Go.Op.binOp Go.BinOp.neq 3 (Go.Operand.tmp 111) (Go.Operand.tmp 116) 3, type := 4, pos := "law.go:264", after := #[{ on := 12, ground := Go.Ground.data }, { on := 17, ground := Go.Ground.data }, { on := 10, ground := Go.Ground.guard }], guard := some (10, false) }) (v := ?va18) rfl (by kernel_rfl) (by kernel_rfl) (by kernel_rfl) (fun _ _ _ h => h) (Or.inl ⟨by rfl, ?hya18⟩) (by assumption) ?resta18
            case hya18 => (intro w hSw; (try dsimp only at hSw); go_simp; try with_reducible rfl)
            try simp only [Act.put, List.setIfInBounds_toArray, List.set_cons_zero, List.set_cons_succ]
            refine wpAnyH_take (i := 19) (oi := { dst := some 118, op := Go.Op.pick (Go.Operand.tmp 109) (Go.Operand.const (Go.Value.bool true)) (Go.Operand.tmp 117), type := 4, pos := "law.go:264", after := #[{ on := 10, ground := Go.Ground.data }, { on := 18, ground := Go.Ground.data }], guard := none }) (v := ?va19) rfl (by kernel_rfl) (by kernel_rfl) (by kernel_rfl) (fun _ _ _ h => h) (Or.inl ⟨by rfl, ?hya19⟩) (by assumption) ?resta19
            case hya19 => (intro w hSw; (try dsimp only at hSw); go_simp; try with_reducible rfl)
            try simp only [Act.put, List.setIfInBounds_toArray, List.set_cons_zero, List.set_cons_succ]
            refine wpAnyH_done (by kernel_rfl) ?_ _
            all_goals
              have FD := Lib.hid hFd
              have LD := Lib.hid lwd
              clear hFd lwd hbd hsa hfa CU1
              go_wp2_with fail
              go_roundw
            all_goals (try (simp only [intOf]; omega))
            all_goals exact ⟨k, g.C, R.take g.r, pd, g.L, g.A, Hs.take (k + 1), by first | rfl | (congr 1; omega), by omega, by simp; omega, by simp; omega, by have := (F.out.hp k g HK.out); have := this.v; have := (F.out.hp k g HK.out).len; omega, by simp; omega, (fun x hx => HG.out x (by rw [List.getElem?_take, if_pos (Nat.succ_pos k)] at hx; exact hx)), (fun h _ => HG.out g (by rw [← h]; exact HK.out)), by first | exact FD.out | exact FD.out.below (Below.refl _ _).drew, by first | exact LD.out | exact LD.out.drew⟩
      · have hgt : ¬ ((C.length : Int) > 0) := by omega
        have F0 := F7
        have B0 := B7
        clear F7 B7
        go_wp2_with fail
        go_loopw [11] (fun iv wr => ∃ (j : Nat) (C : List CV) (R : List (CV × Nat)) (p : PV) (L : Bs) (As : List T) (Hs : List MK), iv = .int .i64 ((j : Int) - 1) ∧ j ≤ i ∧ j ≤ Hs.length ∧ Hs.length ≤ 1000 ∧ C.length ≤ 100000 ∧ R.length ≤ 100000 ∧ (∀ g, Hs[0]? = some g → g.C = []) ∧ (j = 0 → 0 < i → C = []) ∧ LS w.heap.size wr w.heap.size rb C R p L As Hs ∧ Below w.heap.size w wr) (fun iv _ => (intOf iv + 1).toNat)
        case atStart => exact ⟨i, C, [], p, [], As, Hs, rfl, Nat.le_refl _, by omega, by omega, by omega, by simp, HG.out, (fun h1 h2 => by omega), F0.out, B0.out⟩
        case round =>
          clear F0 B0 HN HG HL
          obtain ⟨j, C, R, p, L, As, Hs, rfl, hji, hjH, hH, hC, hR, hg0, hend, hf, hb⟩ := hrel
          have F := Lib.hid hf
          have HB := Lib.hid hb
          have HG := Lib.hid hg0
          have HE := Lib.hid hend
          clear hf hb hg0 hend
          rcases Nat.eq_zero_or_pos j with h0 | h0
          · subst h0
            have hge : ¬ ((((0 : Nat) : Int) - 1) ≥ 0) := by omega
            by_cases hm0 : i = 0
            · subst hm0
              go_wp2_with fail
              go_ret
              exact ⟨rfl, HB.out⟩
            · have hmb : ((i : Int) == 0) = false := beq_eq_false_iff_ne.mpr (by omega)
              obtain rfl := HE.out rfl (by omega)
              go_wp2_with fail
              refine (pvars F.out _ (Below.refl _ _)).mono ?_
              rintro e w3 ⟨rfl, rfl⟩
              go_wp2_with fail
              go_ret
              exact ⟨rfl, HB.out⟩
          · obtain ⟨k, rfl⟩ : ∃ k, j = k + 1 := ⟨j - 1, by omega⟩
            have ek : (((k + 1 : Nat) : Int) - 1) = (k : Int) := by omega
            rw [ek]
            obtain ⟨g, hg⟩ : ∃ g, Hs[k]? = some g := ⟨_, List.getElem?_eq_getElem (by omega)⟩
            have HK := Lib.hid hg
            have hge : (k : Int) ≥ 0 := by omega
            have CU1 := Lib.hid (fun W hW => pundo1 F.out (by omega) (by omega) (by omega) hg W hW)
            have hM : Hs.length ≤ 1000000 := by omega
            have lw0 := HB.out
            clear hg ek
            go_wp2_with fail
            refine wp_region_held_drew (S := fun w1 => True) (by kernel_rfl) ?Sb (fun hH0 => ?Bb)
            case Sb => (trivial)
            refine wpAnyH_take (i := 0) (oi := { dst := some 99, op := Go.Op.move (Go.Operand.tmp 3), type := 23, pos := "law.go:264", after := #[], guard := none }) (v := ?vb0) rfl (by kernel_rfl) (by kernel_rfl) (by kernel_rfl) (fun _ _ _ h => h) (Or.inl ⟨by rfl, ?hyb0⟩) (by assumption) ?restb0
            case hyb0 => (intro w hSw; (try dsimp only at hSw); go_simp; try with_reducible rfl)
            try simp only [Act.put, List.setIfInBounds_toArray, List.set_cons_zero, List.set_cons_succ]
            refine wpAnyH_take (i := 1) (oi := { dst := some 100, op := Go.Op.move (Go.Operand.tmp 11), type := 3, pos := "law.go:264", after := #[], guard := none }) (v := ?vb1) rfl (by kernel_rfl) (by kernel_rfl) (by kernel_rfl) (fun _ _ _ h => h) (Or.inl ⟨by rfl, ?hyb1⟩) (by assumption) ?restb1
            case hyb1 => (intro w hSw; (try dsimp only at hSw); go_simp; try with_reducible rfl)
            try simp only [Act.put, List.setIfInBounds_toArray, List.set_cons_zero, List.set_cons_succ]
            refine wpAnyH_ready (rs := [2]) (by kernel_rfl) (by simp) ?_
            refine AllReadyH.cons (o := { dst := some 101, op := Go.Op.call { callee := Go.Callee.value (Go.Operand.func 18), args := #[Go.Operand.tmp 99, Go.Operand.tmp 100], argTypes := #[23, 3] }, type := 36, pos := "law.go:264", after := #[{ on := 0, ground := Go.Ground.data }, { on := 1, ground := Go.Ground.data }], guard := none }) rfl (fun K hK => ?_) ?nilb2
            case nilb2 => exact AllReadyH.nil
            go_simp
            (refine (CU1.out _ (by (repeat (first | (with_reducible exact Below.refl _ _) | (with_reducible refine Below.drew ?_))))).mono ?_)
            rintro e wa ⟨rfl, hsa, hfa⟩
            go_wp2_with fail
            refine hK.out _ _ ?Sb2 (fun hH1 => ?restb2)
            case Sb2 => (trivial)
            clear hK K
            try simp only [Act.put, List.setIfInBounds_toArray, List.set_cons_zero, List.set_cons_succ]
            refine wpAnyH_take (i := 3) (oi := { dst := some 102, op := Go.Op.binOp Go.BinOp.neq 36 (Go.Operand.tmp 101) (Go.Operand.const (Go.Value.int Go.IntKind.i64 0)) 36, type := 4, pos := "law.go:264", after := #[{ on := 2, ground := Go.Ground.data }], guard := none }) (v := ?vb3) rfl (by kernel_rfl) (by kernel_rfl) (by kernel_rfl) (fun _ _ _ h => h) (Or.inl ⟨by rfl, ?hyb3⟩) (by assumption) ?restb3
            case hyb3 => (intro w hSw; (try dsimp only at hSw); go_simp; try with_reducible rfl)
            try simp only [Act.put, List.setIfInBounds_toArray, List.set_cons_zero, List.set_cons_succ]
            refine wpAnyH_take (i := 4) (oi := { dst := some 103, op := Go.Op.move (Go.Operand.tmp 102), type := 4, pos := "law.go:264", after := #[{ on := 3, ground := Go.Ground.data }, { on := 2, ground := Go.Ground.chain }], guard := none }) (v := ?vb4) rfl (by kernel_rfl) (by kernel_rfl) (by kernel_rfl) (fun _ _ _ h => h) (Or.inl ⟨by rfl, ?hyb4⟩) (by assumption) ?restb4
            case hyb4 => (intro w hSw; (try dsimp only at hSw); go_simp; try with_reducible rfl)
            try simp only [Act.put, List.setIfInBounds_toArray, List.set_cons_zero, List.set_cons_succ]
            refine wpAnyH_take (i := 5) (oi := { dst := some 104, op := Go.Op.move (Go.Operand.tmp 4), type := 25, pos := "law.go:264", after := #[{ on := 4, ground := Go.Ground.guard }], guard := some (4, false) }) (v := ?vb5) rfl (by kernel_rfl) (by kernel_rfl) (by kernel_rfl) (fun _ _ _ h => h) (Or.inl ⟨by rfl, ?hyb5⟩) (by assumption) ?restb5
            case hyb5 => (intro w hSw; (try dsimp only at hSw); go_simp; try with_reducible rfl)
            try simp only [Act.put, List.setIfInBounds_toArray, List.set_cons_zero, List.set_cons_succ]
            refine wpAnyH_take (i := 6) (oi := { dst := some 105, op := Go.Op.move (Go.Operand.tmp 11), type := 3, pos := "law.go:264", after := #[{ on := 4, ground := Go.Ground.guard }], guard := some (4, false) }) (v := ?vb6) rfl (by kernel_rfl) (by kernel_rfl) (by kernel_rfl) (fun _ _ _ h => h) (Or.inl ⟨by rfl, ?hyb6⟩) (by assumption) ?restb6
            case hyb6 => (intro w hSw; (try dsimp only at hSw); go_simp; try with_reducible rfl)
            try simp only [Act.put, List.setIfInBounds_toArray, List.set_cons_zero, List.set_cons_succ]
            refine wpAnyH_ready (rs := [7]) (by kernel_rfl) (by simp) ?_
            refine AllReadyH.cons (o := { dst := some 106, op := Go.Op.call { callee := Go.Callee.value (Go.Operand.func 19), args := #[Go.Operand.tmp 104, Go.Operand.tmp 105], argTypes := #[25, 3] }, type := 36, pos := "law.go:264", after := #[{ on := 5, ground := Go.Ground.data }, { on := 6, ground := Go.Ground.data }, { on := 4, ground := Go.Ground.chain }, { on := 4, ground := Go.Ground.guard }], guard := some (4, false) }) rfl (fun K hK => ?_) ?nilb7
            case nilb7 => exact AllReadyH.nil
            go_simp
            (refine (pundo2 F.out hM HK.out hsa hfa _ (by (repeat (first | (with_reducible exact Below.refl _ _) | (with_reducible refine Below.drew ?_))))).mono ?_)
            rintro e wd ⟨rfl, pd, hFd, hbd⟩
            have lwd := lw0.trans hbd
            go_wp2_with fail
            refine hK.out _ _ ?Sb7 (fun hH2 => ?restb7)
            case Sb7 => (trivial)
            clear hK K
            try simp only [Act.put, List.setIfInBounds_toArray, List.set_cons_zero, List.set_cons_succ]
            refine wpAnyH_less (S' := fun w' => w'.cell? ⟨rb, 0, none⟩ = some (.int .i64 (g.C.length : Int))) (fun _ _ => trivial) ?_
            have hHX := hFd.boxN.1
            refine wpAnyH_take (i := 8) (oi := { dst := some 107, op := Go.Op.binOp Go.BinOp.neq 36 (Go.Operand.tmp 106) (Go.Operand.const (Go.Value.int Go.IntKind.i64 0)) 36, type := 4, pos := "law.go:264", after := #[{ on := 7, ground := Go.Ground.data }, { on := 4, ground := Go.Ground.guard }], guard := some (4, false) }) (v := ?vb8) rfl (by kernel_rfl) (by kernel_rfl) (by kernel_rfl) (fun _ _ _ h => h) (Or.inl ⟨by rfl, ?hyb8⟩) (by assumption) ?restb8
            case hyb8 => (intro w hSw; (try dsimp only at hSw); go_simp; try with_reducible rfl)
            try simp only [Act.put, List.setIfInBounds_toArray, List.set_cons_zero, List.set_cons_succ]
            refine wpAnyH_take (i := 9) (oi := { dst := some 108, op := Go.Op.pick (Go.Operand.tmp 103) (Go.Operand.const (Go.Value.bool true)) (Go.Operand.tmp 107), type := 4, pos := "law.go:264", after := #[{ on := 4, ground := Go.Ground.data }, { on := 8, ground := Go.Ground.data }], guard := none }) (v := ?vb9) rfl (by kernel_rfl) (by kernel_rfl) (by kernel_rfl) (fun _ _ _ h => h) (Or.inl ⟨by rfl, ?hyb9⟩) (by assumption) ?restb9
            case hyb9 => (intro w hSw; (try dsimp only at hSw); go_simp; try with_reducible rfl)
            try simp only [Act.put, List.setIfInBounds_toArray, List.set_cons_zero, List.set_cons_succ]
            refine wpAnyH_take (i := 10) (oi := { dst := some 109, op := Go.Op.move (Go.Operand.tmp 108), type := 4, pos := "law.go:264", after := #[{ on := 9, ground := Go.Ground.data }, { on := 7, ground := Go.Ground.chain }], guard := none }) (v := ?vb10) rfl (by kernel_rfl) (by kernel_rfl) (by kernel_rfl) (fun _ _ _ h => h) (Or.inl ⟨by rfl, ?hyb10⟩) (by assumption) ?restb10
            case hyb10 => (intro w hSw; (try dsimp only at hSw); go_simp; try with_reducible rfl)
            try simp only [Act.put, List.setIfInBounds_toArray, List.set_cons_zero, List.set_cons_succ]
            refine wpAnyH_take (i := 11) (oi := { dst := some 110, op := Go.Op.move (Go.Operand.tmp 3), type := 23, pos := "law.go:264", after := #[{ on := 10, ground := Go.Ground.guard }], guard := some (10, false) }) (v := ?vb11) rfl (by kernel_rfl) (by kernel_rfl) (by kernel_rfl) (fun _ _ _ h => h) (Or.inl ⟨by rfl, ?hyb11⟩) (by assumption) ?restb11
            case hyb11 => (intro w hSw; (try dsimp only at hSw); go_simp; try with_reducible rfl)
            try simp only [Act.put, List.setIfInBounds_toArray, List.set_cons_zero, List.set_cons_succ]
            refine wpAnyH_take (i := 13) (oi := { dst := some 112, op := Go.Op.move (Go.Operand.tmp 4), type := 25, pos := "law.go:264", after := #[{ on := 10, ground := Go.Ground.guard }], guard := some (10, false) }) (v := ?vb13) rfl (by kernel_rfl) (by kernel_rfl) (by kernel_rfl) (fun _ _ _ h => h) (Or.inl ⟨by rfl, ?hyb13⟩) (by assumption) ?restb13
            case hyb13 => (intro w hSw; (try dsimp only at hSw); go_simp; try with_reducible rfl)
            try simp only [Act.put, List.setIfInBounds_toArray, List.set_cons_zero, List.set_cons_succ]
            refine wpAnyH_take (i := 14) (oi := { dst := some 113, op := Go.Op.nilCheck (Go.Operand.tmp 112), type := 0, pos := "law.go:264", after := #[{ on := 13, ground := Go.Ground.data }, { on := 10, ground := Go.Ground.guard }], guard := some (10, false) }) (v := ?vb14) rfl (by kernel_rfl) (by kernel_rfl) (by kernel_rfl) (fun _ _ _ h => h) (Or.inl ⟨by rfl, ?hyb14⟩) (by assumption) ?restb14
            case hyb14 => (intro w hSw; (try dsimp only at hSw); go_simp; try with_reducible rfl)
            try simp only [Act.put, List.setIfInBounds_toArray, List.set_cons_zero, List.set_cons_succ]
            refine wpAnyH_take (i := 15) (oi := { dst := some 114, op := Go.Op.fieldAddr 35 (Go.Operand.tmp 113) 0, type := 0, pos := "law.go:264", after := #[{ on := 14, ground := Go.Ground.data }, { on := 10, ground := Go.Ground.guard }], guard := some (10, false) }) (v := ?vb15) rfl (by kernel_rfl) (by kernel_rfl) (by kernel_rfl) (fun _ _ _ h => h) (Or.inl ⟨by rfl, ?hyb15⟩) (by assumption) ?restb15
            case hyb15 => (intro w hSw; (try dsimp only at hSw); go_simp; try with_reducible rfl)
            try simp only [Act.put, List.setIfInBounds_toArray, List.set_cons_zero, List.set_cons_succ]
            refine wpAnyH_take (i := 16) (oi := { dst := some 115, op := Go.Op.fieldAddr 32 (Go.Operand.tmp 114) 0, type := 0, pos := "law.go:264", after := #[{ on := 15, ground := Go.Ground.data }, { on := 10, ground := Go.Ground.guard }], guard := some (10, false) }) (v := ?vb16) rfl (by kernel_rfl) (by kernel_rfl) (by kernel_rfl) (fun _ _ _ h => h) (Or.inl ⟨by rfl, ?hyb16⟩) (by assumption) ?restb16
            case hyb16 => (intro w hSw; (try dsimp only at hSw); go_simp; try with_reducible rfl)
            try simp only [Act.put, List.setIfInBounds_toArray, List.set_cons_zero, List.set_cons_succ]
            refine wpAnyH_take (i := 17) (oi := { dst := some 116, op := Go.Op.load 3 (Go.Operand.tmp 115), type := 3, pos := "law.go:264", after := #[{ on := 16, ground := Go.Ground.data }, { on := 10, ground := Go.Ground.guard }], guard := some (10, false) }) (v := ?vb17) rfl (by kernel_rfl) (by kernel_rfl) (by kernel_rfl) (fun _ _ _ h => h) (Or.inl ⟨by rfl, ?hyb17⟩) (by assumption) ?restb17
            case hyb17 => (intro w hSw; (try dsimp only at hSw); go_simp; try with_reducible rfl)
            try simp only [Act.put, List.setIfInBounds_toArray, List.set_cons_zero, List.set_cons_succ]
            refine wpAnyH_ready (rs := [12]) (by kernel_rfl) (by simp) ?_
            refine AllReadyH.cons (o := { dst := some 111, op := Go.Op.call { callee := Go.Callee.value (Go.Operand.func 14), args := #[Go.Operand.tmp 110], argTypes := #[23] }, type := 3, pos := "law.go:264", after := #[{ on := 11, ground := Go.Ground.data }, { on := 10, ground := Go.Ground.chain }, { on := 10, ground := Go.Ground.guard }], guard := some (10, false) }) rfl (fun K hK => ?_) ?nilb12
            case nilb12 => exact AllReadyH.nil
            go_simp
            (refine (pvars hFd _ (by (repeat (first | (with_reducible exact Below.refl _ _) | (with_reducible refine Below.drew ?_))))).mono ?_)
            rintro e we ⟨rfl, rfl⟩
            go_wp2_with fail
            refine hK.out _ _ ?Sb12 (fun hH3 => ?restb12)
            case Sb12 => (exact hHX)
            clear hK K
            try simp only [Act.put, List.setIfInBounds_toArray, List.set_cons_zero, List.set_cons_succ]
            refine wpAnyH_take (i := 18) (oi := { dst := some 117, op := Go.Op.binOp Go.BinOp.neq 3 (Go.Operand.tmp 111) (Go.Operand.tmp 116) 3, type := 4, pos := "law.go:264", after := #[{ on := 12, ground := Go.Ground.data }, { on := 17, ground := Go.Ground.data }, { on := 10, ground := Go.Ground.guard }], guard := some (10, false) }) (v := ?vb18) rfl (by kernel_rfl) (by kernel_rfl) (by kernel_rfl) (fun _ _ _ h => h) (Or.inl ⟨by rfl, ?hyb18⟩) (by assumption) ?restb18
            case hyb18 => (intro w hSw; (try dsimp only at hSw); go_simp; try with_reducible rfl)
            try simp only [Act.put, List.setIfInBounds_toArray, List.set_cons_zero, List.set_cons_succ]
            refine wpAnyH_take (i := 19) (oi := { dst := some 118, op := Go.Op.pick (Go.Operand.tmp 109) (Go.Operand.const (Go.Value.bool true)) (Go.Operand.tmp 117), type := 4, pos := "law.go:264", after := #[{ on := 10, ground := Go.Ground.data }, { on := 18, ground := Go.Ground.data }], guard := none }) (v := ?vb19) rfl (by kernel_rfl) (by kernel_rfl) (by kernel_rfl) (fun _ _ _ h => h) (Or.inl ⟨by rfl, ?hyb19⟩) (by assumption) ?restb19
            case hyb19 => (intro w hSw; (try dsimp only at hSw); go_simp; try with_reducible rfl)
            try simp only [Act.put, List.setIfInBounds_toArray, List.set_cons_zero, List.set_cons_succ]
            refine wpAnyH_done (by kernel_rfl) ?_ _
            all_goals
              have FD := Lib.hid hFd
              have LD := Lib.hid lwd
              clear hFd lwd hbd hsa hfa CU1
              go_wp2_with fail
              go_roundw
            all_goals (try (simp only [intOf]; omega))
            all_goals exact ⟨k, g.C, R.take g.r, pd, g.L, g.A, Hs.take (k + 1), by first | rfl | (congr 1; omega), by omega, by simp; omega, by simp; omega, by have := (F.out.hp k g HK.out); have := this.v; have := (F.out.hp k g HK.out).len; omega, by simp; omega, (fun x hx => HG.out x (by rw [List.getElem?_take, if_pos (Nat.succ_pos k)] at hx; exact hx)), (fun h _ => HG.out g (by rw [← h]; exact HK.out)), by first | exact FD.out | exact FD.out.below (Below.refl _ _).drew, by first | exact LD.out | exact LD.out.drew⟩
end Go.Proofs.Ytgoedlbdnmhppaa
