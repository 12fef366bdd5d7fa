/- The reference's store: Mark, Undo. The reference's store: Set, Fresh. The reference's store: Fresh. Terms that Compare calls the same. The walks through coneyref07.order, texts, Compare; coneyref08.Same: 0 just for the same terms. Both stores side by side: plain lemmas on what the marks bring back; where a law stands. The program's store: Undo. The program's store: the walk of Undo. Both stores side by side: their calls in pairs. Variables of any number: known, walk, Resolve; Unify of one that the store has not. -/
import Derived.Test.YtgoedlbdnmhppaaSb1
import Derived.Deep.AppendLies
import Derived.Test.YtgoedlbdnmhppaaRes0
import Derived.Test.YtgoedlbdnmhppaaMa
import Derived.Test.YtgoedlbdnmhppaaStep
import Derived.WalkLawsBesides
import Derived.Deep.RegionHeld3
import Derived.Deep.DrawnRows
import Derived.Test.YtgoedlbdnmhppaaSt2
import Derived.OwnWalk
namespace Go.Proofs.Ytgoedlbdnmhppaa
open Go.RowKit

theorem PV.one (p : PV) : ∀ u ∈ p.vals, u.oneCell' = true := by
  intro u hu
  simp only [PV.vals, List.mem_cons, List.not_mem_nil, or_false] at hu
  rcases hu with rfl | rfl | rfl <;> rfl
/-- A new row of marks, its box written. -/
theorem RM.remark {w w2 W : World} {B rb : Nat} {p : PV} {Qs : List PV} {m0 : Value} {g cap : Nat} (hge : B ≤ rb) (hb : w2.heap[rb]? = some (.cells #[.int .i64 (p.n : Int), .slice p.LA p.ln p.lc, .slice p.AA p.am p.ac, m0] 35 (0, 0)))
    (hown : w2.ownsRow B 32 3 (.slice (some ⟨g, 0, none⟩) Qs.length cap) Qs.length (Qs.flatMap PV.vals)) (hF : RF B rb w w2) (hW : W = w2.setCell ⟨rb, 3, none⟩ (.slice (some ⟨g, 0, none⟩) Qs.length cap)) : RM W B rb p Qs ∧ RF B rb w W := by
  have h2 := blk_set hb 3 (.slice (some ⟨g, 0, none⟩) Qs.length cap)
  rw [← hW] at h2
  refine ⟨⟨⟨some ⟨g, 0, none⟩, cap, by simpa using h2, own_keep hown fun k hk => ?_⟩, hge⟩, hF.trans ⟨?_, fun k o hk hn => ?_⟩⟩
  · obtain ⟨cs, f, hh⟩ := Go.Lib.ownsRow_kind hown k hk
    rw [hW]
    refine Below.heap_setCell _ _ _ k ?_
    rintro rfl
    rw [hb] at hh
    injection hh with hh
    injection hh with _ hh
    exact absurd hh (by decide)
  · rw [hW]; exact (Below.refl _ _).setCell (p := ⟨rb, 3, none⟩) hge _
  · rw [hW]
    refine (Below.heap_setCell _ _ _ k ?_).trans hk
    rintro rfl
    rw [hb] at hk
    injection hk with hk
    exact (hn _ _ _ hk.symm).1 rfl rfl
/-- An append onto the marks leaves all else alone. -/
theorem RF.grown {w w1 w2 : World} {B rb k n : Nat} {v : Value} {xs : List Value} (hB : B ≤ w.heap.size) (h1 : Below w.heap.size w w1) (hx : w1.ownsRow B 32 k v n xs) (hg : w1.grownBy w2 v.ownBlock) : RF B rb w w2 :=
  ⟨(h1.mono hB).grown hg (Nat.le_trans hB h1.size) fun k hk => (hx.lt k hk).1, fun k o hk hn => by
    have hk1 := (h1.block k (heap_lt hk)).trans hk
    refine (hg.block k (heap_lt hk1) fun h => ?_).trans hk1
    obtain ⟨cs', f', hh'⟩ := Go.Lib.ownsRow_kind hx k h.symm
    rw [hk1] at hh'
    injection hh' with hh'
    exact (hn _ _ _ hh').2 rfl⟩
theorem keepBoxR {w1 w2 : World} {B k n rb : Nat} {v : Value} {xs : List Value} {cs : Array Value} {f : Nat × Nat} (hb : w1.heap[rb]? = some (.cells cs 35 f)) (hx : w1.ownsRow B 32 k v n xs) (hg : w1.grownBy w2 v.ownBlock) : w2.heap[rb]? = some (.cells cs 35 f) := by
  refine (hg.block rb (heap_lt hb) fun h => ?_).trans hb
  obtain ⟨cs', f', hh'⟩ := Go.Lib.ownsRow_kind hx rb h.symm
  rw [hb] at hh'
  injection hh' with hh'
  injection hh' with _ hh'
  exact absurd hh' (by decide)
set_option maxRecDepth 100000 in
set_option maxHeartbeats 4000000 in
theorem rmark9_any {w : World} {B rb : Nat} {p : PV} {Ps : List PV} (h : RM w B rb p Ps) (hM : Ps.length ≤ 1000000) :
    Calls Try.prog 11 #[.pointer (some ⟨rb, 0, none⟩)] w fun e w' => e = .returned (.int .i64 (Ps.length : Int)) ∧ RM w' B rb p (Ps ++ [p]) ∧ RF B rb w w' := by
  obtain ⟨MA, mc, b0, b1, b2, b3, bf, hl, hb, h1⟩ := h.box
  have HB := Lib.hid hb
  have HGE := Lib.hid h.ge
  have H1 := Lib.hid h1
  have hBs : B ≤ w.heap.size := by have := h.ge; omega
  obtain ⟨item, ii1, ii2, ii3, ii4⟩ := elState.hi
  clear hb h h1
  go_enter Try.func11, Try.ntmps11
  go_wp2_with fail
  go_region_law (refine step_append_lies _ rfl _ _ _ rfl B 32 item (.agg #[.int .i64 0, .slice none 0 0, .slice none 0 0]) 3 56 Try.underlying33 ii1 ii2 ii3 ii4 rfl (by omega) _ Ps.length _ rfl (own_below H1.out (by first | exact ((Below.refl _ _).drew).alloc (Nat.le_refl _) _ | exact ((Below.refl _ _).alloc (Nat.le_refl _) _).drew | exact (Below.refl _ _).alloc (Nat.le_refl _) _)) ⟨w.heap.size, 0, none⟩ 1 1 [.int .i64 (p.n : Int), .slice p.LA p.ln p.lc, .slice p.AA p.am p.ac] rfl rfl (World.news_of_block (heap_alloc_new _ _)) (by intro u hu; simp only [List.mem_cons, List.not_mem_nil, or_false] at hu; rcases hu with rfl | rfl | rfl <;> rfl) (by omega) (by unfold maxLen; omega) (by omega) (by simp; omega) _ rfl ?_; intro g1 cap1 w10 hown1 hg1 hat1 hlt1; have Z10 := keepBoxR (((by first | exact ((Below.refl _ _).drew).alloc (Nat.le_refl _) _ | exact ((Below.refl _ _).alloc (Nat.le_refl _) _).drew | exact (Below.refl _ _).alloc (Nat.le_refl _) _ : Below w.heap.size w _).block _ hl).trans HB.out) (own_below H1.out (by first | exact ((Below.refl _ _).drew).alloc (Nat.le_refl _) _ | exact ((Below.refl _ _).alloc (Nat.le_refl _) _).drew | exact (Below.refl _ _).alloc (Nat.le_refl _) _)) hg1; have z3 := cell_of_row w10 rb 3 _ _ _ Z10; have zl := heap_lt Z10; have zf := unfrozen Z10)
  all_goals
    have S := Lib.hid (RM.remark (Qs := Ps ++ [p]) HGE.out Z10 (by rw [flat_snoc, List.length_append]; exact hown1) (RF.grown hBs (by first | exact ((Below.refl _ _).drew).alloc (Nat.le_refl _) _ | exact ((Below.refl _ _).alloc (Nat.le_refl _) _).drew | exact (Below.refl _ _).alloc (Nat.le_refl _) _) (own_below H1.out (by first | exact ((Below.refl _ _).drew).alloc (Nat.le_refl _) _ | exact ((Below.refl _ _).alloc (Nat.le_refl _) _).drew | exact (Below.refl _ _).alloc (Nat.le_refl _) _)) hg1) rfl)
    have Y3 := cell_of_row _ rb 3 _ _ _ (blk_set Z10 3 (.slice (some ⟨g1, 0, none⟩) (Ps.length + 1) cap1))
    clear hown1 hg1 hat1 hlt1 Z10 b0 b1 b2 b3
    go_wp2_with fail
    go_ret
    have h := S.out
    rw [List.length_append] at h
    exact ⟨by simp, h⟩
set_option maxRecDepth 100000 in
theorem rundo9_out {w : World} {B rb : Nat} {p : PV} {Ps : List PV} (h : RM w B rb p Ps) {n : Int} (ho : n < 0 ∨ (Ps.length : Int) ≤ n) :
    Calls Try.prog 19 #[.pointer (some ⟨rb, 0, none⟩), .int .i64 n] w fun e w' => e = .returned (.int .i64 1) ∧ w' = w := by
  obtain ⟨MA, mc, b0, b1, b2, b3, bf, hl, hb, h1⟩ := h.box
  clear hb h h1
  by_cases hn : n < 0
  · go_enter Try.func19, Try.ntmps19
    go_wp2_with fail
    go_ret
    exact ⟨rfl, rfl⟩
  · have hge : n ≥ (Ps.length : Int) := by omega
    clear ho
    go_enter Try.func19, Try.ntmps19
    go_wp2_with fail
    go_ret
    exact ⟨rfl, rfl⟩
set_option maxRecDepth 100000 in
set_option maxHeartbeats 4000000 in
theorem rundo9_in {w : World} {B rb k : Nat} {p q : PV} {Ps : List PV} (h : RM w B rb p Ps) (hM : Ps.length ≤ 1000000) (hk : Ps[k]? = some q) :
    Calls Try.prog 19 #[.pointer (some ⟨rb, 0, none⟩), .int .i64 (k : Int)] w fun e w' => e = .returned (.int .i64 0) ∧ RM w' B rb q (Ps.take (k + 1)) ∧ RF B rb w w' := by
  obtain ⟨MA, mc, b0, b1, b2, b3, bf, hl, hb, h1⟩ := h.box
  have hkl := lt_of_at hk
  obtain ⟨g0, rfl, hg0, ⟨cs0, hh0, hz0⟩, hc0, hel⟩ := own_elem pvals_len h1 hk rfl
  have o0 := hel 0 _ rfl
  have o1 := hel 1 _ rfl
  have o2 := hel 2 _ rfl
  simp only [Nat.add_zero] at o0
  have hl0 := heap_lt hh0
  have hn0 : ¬ ((k : Int) < 0) := by omega
  have hnge : ¬ ((k : Int) ≥ (Ps.length : Int)) := by omega
  have hni : (k : Int) < (Ps.length : Int) := by omega
  have hk1 : k + 1 ≤ mc := by omega
  have hkl' : (k : Int) + 1 ≤ (Ps.length : Int) := by omega
  have hBs : B ≤ w.heap.size := by have := h.ge; omega
  have P3 := blk_set (blk_set (blk_set hb 0 (.int .i64 (q.n : Int))) 1 (.slice q.LA q.ln q.lc)) 2 (.slice q.AA q.am q.ac)
  obtain ⟨W, hW⟩ : ∃ W, W = ((w.setCell ⟨rb, 0, none⟩ (.int .i64 (q.n : Int))).setCell ⟨rb, 1, none⟩ (.slice q.LA q.ln q.lc)).setCell ⟨rb, 2, none⟩ (.slice q.AA q.am q.ac) := ⟨_, rfl⟩
  rw [← hW] at P3
  have hWk : ∀ b, b ≠ rb → W.heap[b]? = w.heap[b]? := fun b hb' => by
    rw [hW]; exact (Below.heap_setCell _ _ _ b hb').trans ((Below.heap_setCell _ _ _ b hb').trans (Below.heap_setCell _ _ _ b hb'))
  have hWs : W.heap.size = w.heap.size := by rw [hW]; simp
  have hne : g0 ≠ rb := by
    rintro rfl
    rw [hb] at hh0
    injection hh0 with hh0
    injection hh0 with _ hh0
    exact absurd hh0 (by decide)
  have RW := Lib.hid (show RF B rb w W from ⟨by rw [hW]; exact (((Below.refl _ _).setCell (p := ⟨rb, 0, none⟩) h.ge _).setCell (p := ⟨rb, 1, none⟩) h.ge _).setCell (p := ⟨rb, 2, none⟩) h.ge _, fun b o hbo hn => (hWk b (by rintro rfl; rw [hb] at hbo; injection hbo with hbo; exact (hn _ _ _ hbo.symm).1 rfl rfl)).trans hbo⟩)
  have h2 := ownsRow_take h1 (k := k + 1) (by omega)
  have e2 : (Ps.flatMap PV.vals).take ((k + 1) * 3) = (Ps.take (k + 1)).flatMap PV.vals := by
    conv => lhs; rw [← List.take_append_drop (k + 1) Ps, List.flatMap_append]
    exact List.take_left' (by rw [flat_len PV.vals pvals_len, List.length_take, Nat.min_eq_left hkl])
  rw [e2] at h2
  have h3 : W.ownsRow B 32 3 (.slice (some ⟨g0, 0, none⟩) (k + 1) mc) (k + 1) ((Ps.take (k + 1)).flatMap PV.vals) := own_keep h2 fun g hg => hWk g (by cases hg; exact hne)
  have c3 := cell_of_row W rb 3 _ _ _ P3
  have wl := heap_lt P3
  have HP3 := Lib.hid P3
  have HGE := Lib.hid h.ge
  have H3 := Lib.hid h3
  have hlen : (Ps.take (k + 1)).length = k + 1 := by rw [List.length_take, Nat.min_eq_left hkl]
  have HLEN := Lib.hid hlen
  have hBW : B ≤ W.heap.size := by omega
  have HWS := Lib.hid hWs
  clear hel hh0 hb h h1 h2 h3 hWk P3 hWs hk hlen e2
  go_enter Try.func19, Try.ntmps19
  go_upto_region 4 with fail
  rw [← hW]
  clear hW b0 b1 b2 b3 bf o0 o1 o2 hl
  obtain ⟨us, hus⟩ : ∃ us, us = (Ps.take (k + 1)).flatMap PV.vals := ⟨_, rfl⟩
  have HU1 := Lib.hid (show ∀ u ∈ us, u.oneCell' = true from fun u hu => by
    rw [hus] at hu
    obtain ⟨x, _, hx⟩ := List.mem_flatMap.mp hu
    exact x.one u hx)
  have HUL := Lib.hid (show us.length = (k + 1) * 3 by rw [hus, flat_len PV.vals pvals_len, HLEN.out])
  have HUC := Lib.hid (show ∀ j u, us[j]? = some u → W.cell? ⟨g0, j, none⟩ = some u from fun j u hj => by
    obtain ⟨A9, c9, e9, _, _, _, hx9⟩ := own_open H3.out
    obtain ⟨g9, cur, e8, _, hh9, hcur⟩ := hx9 (by omega)
    injection e9 with e9 _ _
    rw [e8] at e9
    injection e9 with e9
    injection e9 with e9
    subst e9
    rw [cell_of_row W g0 j _ _ _ hh9, ← hj, hus]
    exact hcur j (by
      have : j < us.length := by
        rcases Nat.lt_or_ge j us.length with h | h
        · exact h
        · rw [List.getElem?_eq_none h] at hj; cases hj
      rw [HUL.out] at this
      exact this))
  have HUS := Lib.hid hus
  have hg0W : g0 < W.heap.size := by have := HWS.out; omega
  clear hus
  go_wp2_with (at_builtin; go_must (refine wpList_append_cells _ rfl _ _ _ rfl elState W.heap.size _ 0 [] rfl (ownsRow_empty _ _ _ _ (heap_alloc_new _ _)) (some ⟨g0, 0, none⟩) (k + 1) mc us rfl (fun h => by cases h) hk1 HUL.out ?_ HU1.out (by omega) (by unfold maxLen; omega) (by simp) ?_))
  · exact ⟨g0, 0, ⟨rfl, rfl⟩, fun j u hj => by
      rw [Nat.zero_add]
      exact ((belS (Below.refl W.heap.size W) (Obj.cells #[] 32)).cell (p := ⟨g0, j, none⟩) hg0W).trans (HUC.out j u hj)⟩
  intro v2 w2 hown2 hg2
  have B2 := Lib.hid (show Below W.heap.size W w2 from (belS (Below.refl W.heap.size W) (Obj.cells #[] 32)).grown hg2 (by simp) fun k hk => by simp [Value.ownBlock] at hk; omega)
  have Z := Lib.hid ((B2.out.block rb wl).trans HP3.out)
  obtain ⟨A9, c9, rfl, _, _, _, hx9⟩ := own_open hown2
  obtain ⟨g9, cur, rfl, _⟩ := hx9 (by omega)
  have z3 := cell_of_row w2 rb 3 _ _ _ Z.out
  have zl := heap_lt Z.out
  have zf := unfrozen Z.out
  have S := Lib.hid (RM.remark (Qs := Ps.take (k + 1)) (g := g9) (cap := c9) HGE.out Z.out (by rw [HLEN.out, ← HUS.out]; exact ownsRow_more hown2 hBW) (RW.out.trans (RF.below hBW B2.out)) rfl)
  clear hown2 hg2 hx9 c3
  go_wp2_with fail
  go_ret
  have h := S.out
  rw [HLEN.out] at h
  exact ⟨rfl, h⟩
end Go.Proofs.Ytgoedlbdnmhppaa
namespace Go.Proofs.Ytgoedlbdnmhppaa
open Go.RowKit

theorem TV.one (p : TV) : ∀ u ∈ p.vals, u.oneCell' = true := by
  intro u hu
  simp only [TV.vals, List.mem_cons, List.not_mem_nil, or_false] at hu
  rcases hu with rfl | rfl | rfl | rfl <;> rfl
/-- A row as the source of an append. -/
theorem row_src {w : World} {B : Nat} {e : TypeId} {s : Nat} {A : Option Addr} {m c : Nat} {us : List Value} (h : w.ownsRow B e s (.slice A m c) m us) :
    (A = none → c = 0) ∧ m ≤ c ∧ us.length = m * s ∧ (0 < m → ∃ b off, A = some ⟨b, off, none⟩ ∧ b < w.heap.size ∧ ∀ j u, us[j]? = some u → w.cell? ⟨b, off + j, none⟩ = some u) := by
  have hl := own_len h
  obtain ⟨A9, c9, e9, h1, h2, _, h3⟩ := own_open h
  injection e9 with e1 _ e3
  subst e1; subst e3
  refine ⟨h2, h1, hl, fun h0 => ?_⟩
  obtain ⟨g, cur, rfl, _, hh, hcur⟩ := h3 h0
  refine ⟨g, 0, rfl, heap_lt hh, fun j u hj => ?_⟩
  rw [Nat.zero_add, cell_of_row w g j _ _ _ hh, ← hj]
  exact hcur j (by
    have : j < us.length := by
      rcases Nat.lt_or_ge j us.length with h | h
      · exact h
      · rw [List.getElem?_eq_none h] at hj; cases hj
    omega)
theorem flat_one {ts : List TV} : ∀ u ∈ ts.flatMap TV.vals, u.oneCell' = true := fun u hu => by
  obtain ⟨x, _, hx⟩ := List.mem_flatMap.mp hu
  exact x.one u hx
theorem AT.set {w : World} {ts : List TV} {As : List T} (h : AT w ts As) {n : Nat} {v : TV} {a : T} (hv : TP w (fun _ => True) a (.agg #[.int .i64 v.k, .int .i64 v.n, .string v.s, .slice v.A v.m v.c])) (ha : a.aok) : AT w (ts.set n v) (As.set n a) := by
  refine ⟨by simp [h.len], fun i v' a' h1 h2 => ?_⟩
  rw [List.getElem?_set] at h1 h2
  by_cases e : n = i
  · subst e
    rw [if_pos rfl] at h1 h2
    split at h1
    · split at h2
      · injection h1 with h1; injection h2 with h2; subst h1; subst h2; exact ⟨hv, ha⟩
      · cases h2
    · cases h1
  · rw [if_neg e] at h1 h2
    exact h.tp i v' a' h1 h2
def RSetP (L : Bs) (As : List T) (w : World) (B rb : Nat) (Ps : List PV) (e : Ending) (w' : World) : Prop := e = .returned (.int .i64 0) ∧ ∃ p', RM w' B rb p' Ps ∧ PA w' p' L As ∧ RF B rb w w'
set_option maxRecDepth 100000 in
set_option maxHeartbeats 4000000 in
theorem rset9_out {w : World} {B rb : Nat} {p : PV} {Ps : List PV} (h : RM w B rb p Ps) {n : Int} (ho : n < 0 ∨ (p.n : Int) ≤ n) (a : TV) :
    Calls Try.prog 35 #[.pointer (some ⟨rb, 0, none⟩), .int .i64 n, .agg #[.int .i64 a.k, .int .i64 a.n, .string a.s, .slice a.A a.m a.c]] w fun e w' => e = .returned (.int .i64 1) ∧ Below w.heap.size w w' := by
  obtain ⟨MA, mc, x0, x1, x2, x3, _, hl, _, _⟩ := h.box
  obtain ⟨ak, an, as_, aA, am, ac⟩ := a
  clear h
  by_cases hn : n < 0
  · go_enter Try.func35, Try.ntmps35
    go_wp2_with fail
    go_ret
    exact ⟨rfl, (belS (Below.refl _ _) _)⟩
  · have hge : n ≥ (p.n : Int) := by omega
    clear ho
    go_enter Try.func35, Try.ntmps35
    go_wp2_with fail
    go_ret
    exact ⟨rfl, (belS (Below.refl _ _) _)⟩
set_option maxRecDepth 100000 in
set_option maxHeartbeats 4000000 in
theorem rset9_bound {w : World} {B rb : Nat} {p : PV} {Ps : List PV} {L : Bs} {As : List T} (h : RM w B rb p Ps) (hp : PA w p L As) {n : Int} (h0 : 0 ≤ n) (hn : n < (p.n : Int)) (hbd : (findB L n).isSome = true) (a : TV) :
    Calls Try.prog 35 #[.pointer (some ⟨rb, 0, none⟩), .int .i64 n, .agg #[.int .i64 a.k, .int .i64 a.n, .string a.s, .slice a.A a.m a.c]] w fun e w' => e = .returned (.int .i64 1) ∧ Below w.heap.size w w' := by
  obtain ⟨MA, mc, x0, x1, x2, x3, _, hl, _, _⟩ := h.box
  obtain ⟨ak, an, as_, aA, am, ac⟩ := a
  have hn0 : ¬ (n < 0) := by omega
  have hnge : ¬ (n ≥ (p.n : Int)) := by omega
  have BX := Lib.hid (belS (Below.refl w.heap.size w) (Obj.cells #[.int .i64 ak, .int .i64 an, .string as_, .slice aA am ac] 40))
  have CB := Lib.hid (rbound9_any (h.below BX.out) (hp.below BX.out) n)
  have HBD := Lib.hid hbd
  clear h hp hbd
  go_enter Try.func35, Try.ntmps35
  go_wp2_with fail
  refine CB.out.mono ?_
  rw [HBD.out]
  rintro e w5 ⟨rfl, h5⟩
  have H5 := Lib.hid (BX.out.trans (h5.mono BX.out.size))
  clear h5 CB
  go_wp2_with fail
  go_ret
  exact ⟨rfl, H5.out⟩
set_option maxRecDepth 100000 in
set_option maxHeartbeats 4000000 in
theorem rset9_in {w : World} {B rb : Nat} {p : PV} {Ps : List PV} {L : Bs} {As : List T} (h : RM w B rb p Ps) (hp : PA w p L As) (hA : As.length ≤ 1000000) {n : Nat} (hn : n < As.length) (hbd : (findB L (n : Int)).isSome = false) {a : T} {v : TV}
    (hv : TP w (fun _ => True) a (.agg #[.int .i64 v.k, .int .i64 v.n, .string v.s, .slice v.A v.m v.c])) (ha : a.aok) :
    Calls Try.prog 35 #[.pointer (some ⟨rb, 0, none⟩), .int .i64 (n : Int), .agg #[.int .i64 v.k, .int .i64 v.n, .string v.s, .slice v.A v.m v.c]] w fun e w' => RSetP L (As.set n a) w B rb Ps e w' := by
  obtain ⟨ak, an, as_, aA, am, ac⟩ := v
  obtain ⟨MA, mc, x0, x1, x2, x3, _, hl, _, _⟩ := h.box
  have hpn1 := Nat.le_of_eq hp.n
  have hpn2 := Nat.le_of_eq hp.n.symm
  have hpm1 := Nat.le_of_eq hp.am
  have hpm2 := Nat.le_of_eq hp.am.symm
  have hn0 : ¬ ((n : Int) < 0) := by omega
  have hnge : ¬ ((n : Int) ≥ (p.n : Int)) := by omega
  have BX := Lib.hid (belS (Below.refl w.heap.size w) (Obj.cells #[.int .i64 ak, .int .i64 an, .string as_, .slice aA am ac] 40))
  have CB := Lib.hid (rbound9_any (h.below BX.out) (hp.below BX.out) (n : Int))
  have X0 := Lib.hid (heap_alloc_new w (Obj.cells #[.int .i64 ak, .int .i64 an, .string as_, .slice aA am ac] 40))
  have HBD := Lib.hid hbd
  have H := Lib.hid h
  have HP := Lib.hid hp
  have HV := Lib.hid hv
  have hBw : B ≤ w.heap.size := by have := h.ge; omega
  clear h hp hbd hv
  go_enter Try.func35, Try.ntmps35
  go_wp2_with fail
  refine CB.out.mono ?_
  rw [HBD.out]
  rintro e w5 ⟨rfl, h5⟩
  have B5 := Lib.hid (BX.out.trans (h5.mono BX.out.size))
  have X5 := (h5.block _ (heap_lt X0.out)).trans X0.out
  have HX5 := Lib.hid X5
  have R5 := Lib.hid (H.out.below B5.out)
  have P5 := Lib.hid (HP.out.below B5.out)
  clear h5 CB X5 x0 x1 x2 x3 hl
  obtain ⟨MA', mc', x0, x1, x2, x3, _, hl, _, _⟩ := R5.out.box
  obtain ⟨ts, ho1, hat⟩ := P5.out.at_
  obtain ⟨s1, s2, s3, s4⟩ := row_src ho1
  have S4 := Lib.hid s4
  have AT5 := Lib.hid hat
  have S1 := Lib.hid s1
  have hlt1 := Nat.le_of_eq hat.len
  have hlt2 := Nat.le_of_eq hat.len.symm
  obtain ⟨us, hus⟩ : ∃ us, us = ts.flatMap TV.vals := ⟨_, rfl⟩
  have HUS := Lib.hid hus
  rw [← hus] at s3
  have HS3 := Lib.hid s3
  clear s4 hat s1 ho1 hus s3
  go_wp2_with (at_builtin; go_must (refine wpList_append_cells _ rfl _ _ _ rfl elTerm w5.heap.size _ 0 [] rfl (ownsRow_empty _ _ _ _ (heap_alloc_new _ _)) p.AA p.am p.ac us rfl S1.out s2 HS3.out ?_ (by rw [HUS.out]; exact flat_one) (by omega) (by unfold maxLen; omega) (by simp) ?_))
  · intro h0
    obtain ⟨b, off, hA, hb, hc⟩ := S4.out h0
    refine ⟨b, off, hA, fun j u hj => ?_⟩
    rw [HUS.out] at hj
    exact ((belS (Below.refl w5.heap.size w5) (Obj.cells #[] 40)).cell (p := ⟨b, off + j, none⟩) hb).trans (hc j u hj)
  intro v2 w2 hown2 hg2
  have B2 := Lib.hid (show Below w5.heap.size w5 w2 from (belS (Below.refl w5.heap.size w5) (Obj.cells #[] 40)).grown hg2 (by simp) fun k hk => by simp [Value.ownBlock] at hk; omega)
  obtain ⟨A9, c9, rfl, _, _, _, hx9⟩ := own_open hown2
  obtain ⟨g9, cur, rfl, hg9, hh9, _⟩ := hx9 (by omega)
  have R2 := Lib.hid (R5.out.below B2.out)
  have P2 := Lib.hid (P5.out.below B2.out)
  obtain ⟨MA2, mc2, b0, b1, b2, b3, bf, hbl, _, _⟩ := R2.out.box
  have XB := (B2.out.block _ (heap_lt HX5.out)).trans HX5.out
  obtain ⟨q0, q1, q2, q3⟩ := box4 XB
  have qlt := heap_lt XB
  obtain ⟨old, hold⟩ : ∃ old, ts[n]? = some old := ⟨_, List.getElem?_eq_getElem (by omega)⟩
  have hown3 : w2.ownsRow w5.heap.size 40 4 (.slice (some ⟨g9, 0, none⟩) p.am c9) p.am (ts.flatMap TV.vals) := by rw [← HUS.out]; exact hown2
  obtain ⟨g8, e8, _, _, _, hel⟩ := own_elem tvals_len hown3 hold (by omega)
  injection e8 with e8
  injection e8 with e8
  subst e8
  obtain ⟨ok, on, os, oA, om, oc⟩ := old
  have o0 := hel 0 _ rfl
  have o1 := hel 1 _ rfl
  have o2 := hel 2 _ rfl
  have o3 := hel 3 _ rfl
  simp only [Nat.add_zero] at o0
  have gf := unfrozen hh9
  have gl := heap_lt hh9
  have hni : (n : Int) < (p.am : Int) := by omega
  have hng : rb ≠ g9 := by have h1 := hl; have h2 := hg9; omega
  have hnb : w.heap.size ≠ g9 := by have h1 := B5.out.size; have h2 := hg9; have h3 := heap_lt HX5.out; omega
  have U := Lib.hid (setCells_own hown3 (o := n * 4) [.int .i64 ak, .int .i64 an, .string as_, .slice aA am ac] (by
    have : (n + 1) * 4 ≤ p.am * 4 := Nat.mul_le_mul_right _ (by omega)
    simp; omega))
  have HH9 := Lib.hid hh9
  have HG9 := Lib.hid hg9
  clear hown2 hown3 hg2 hx9 x0 x1 x2 x3 hel hold XB hh9 hg9
  obtain ⟨W, hW⟩ : ∃ W, W = w2.setCells g9 (n * 4) [.int .i64 ak, .int .i64 an, .string as_, .slice aA am ac] := ⟨_, rfl⟩
  have BW := Lib.hid (show Below w5.heap.size w5 W by rw [hW]; exact setCells_low HG9.out _ _ _ B2.out)
  have R3 := Lib.hid (R5.out.below BW.out)
  obtain ⟨MA3, mc3, d0, d1, d2, d3, df, dl, _, _⟩ := R3.out.box
  have WR := Lib.hid (R3.out.write 2 (.slice (some ⟨g9, 0, none⟩) p.am c9) ⟨p.n, p.LA, p.ln, p.lc, some ⟨g9, 0, none⟩, p.am, c9⟩ (fun m => rfl))
  have P3 := Lib.hid ((P5.out.below BW.out).rf WR.out.2)
  have hW' : (((w2.setCell ⟨g9, n * 4, none⟩ (.int .i64 ak)).setCell ⟨g9, n * 4 + 1, none⟩ (.int .i64 an)).setCell ⟨g9, n * 4 + 2, none⟩ (.string as_)).setCell ⟨g9, n * 4 + 3, none⟩ (.slice aA am ac) = W := hW.symm
  have HWW := Lib.hid hW
  clear hW
  go_upto_region 6 with fail
  try rw [hW']
  clear hW'
  have V9 := Lib.hid ((HV.out.below (B5.out.trans (BW.out.mono B5.out.size))).rf WR.out.2)
  have ROW := Lib.hid (show (W.setCell ⟨rb, 2, none⟩ (.slice (some ⟨g9, 0, none⟩) p.am c9)).ownsRow 0 40 4 (.slice (some ⟨g9, 0, none⟩) p.am c9) p.am ((ts.set n ⟨ak, an, as_, aA, am, ac⟩).flatMap TV.vals) from by
    have h1 := ownsRow_more U.out (Nat.zero_le _)
    rw [← HWW.out] at h1
    rw [flat_set TV.vals tvals_len ts n _ (by omega)]
    exact own_keep h1 fun g hg => Below.heap_setCell _ _ _ g (by cases hg; exact fun e => hng e.symm))
  have A9 := Lib.hid (show AT (W.setCell ⟨rb, 2, none⟩ (.slice (some ⟨g9, 0, none⟩) p.am c9)) (ts.set n ⟨ak, an, as_, aA, am, ac⟩) (As.set n a) from ((AT5.out.keep fun ht => ht.below BW.out).rf WR.out.2).set V9.out ha)
  go_wp2_with fail
  go_ret
  refine ⟨rfl, _, WR.out.1, ⟨by rw [List.length_set]; exact P3.out.n, P3.out.ln, by rw [List.length_set]; exact P3.out.am, P3.out.bl, P3.out.ok, _, ROW.out, A9.out⟩, (RF.below hBw (B5.out.trans (BW.out.mono B5.out.size))).trans WR.out.2⟩
end Go.Proofs.Ytgoedlbdnmhppaa
namespace Go.Proofs.Ytgoedlbdnmhppaa
open Go.RowKit

theorem zeros_terms (k : Nat) : (Builtin.zeroCells (Value.agg #[.int .i64 0, .int .i64 0, .string ⟨#[]⟩, .slice none 0 0]).cells k).toList = (List.replicate k TV.zero).flatMap TV.vals := by
  rw [zeroCells_list, List.flatMap_def, List.map_replicate]
  rfl
theorem zeros_terms_one (k : Nat) : ∀ u ∈ (Builtin.zeroCells (Value.agg #[.int .i64 0, .int .i64 0, .string ⟨#[]⟩, .slice none 0 0]).cells k).toList, u.oneCell' = true := by
  intro u hu
  rw [zeros_terms] at hu
  exact flat_one u hu
theorem AT.zeros {w : World} {ts : List TV} {As : List T} (h : AT w ts As) (k : Nat) : AT w (ts ++ List.replicate k TV.zero) (As ++ List.replicate k noneT) := by
  refine ⟨by simp [h.len], fun i v a h1 h2 => ?_⟩
  by_cases hi : i < ts.length
  · rw [List.getElem?_append_left hi] at h1
    rw [List.getElem?_append_left (by rw [← h.len]; exact hi)] at h2
    exact h.tp i v a h1 h2
  · rw [List.getElem?_append_right (by omega), List.getElem?_replicate] at h1
    rw [List.getElem?_append_right (by rw [← h.len]; omega), List.getElem?_replicate] at h2
    split at h1
    · split at h2
      · injection h1 with h1; injection h2 with h2; subst h1; subst h2
        exact ⟨TP.leaf0 _ _ _ _ _ _, .inr rfl⟩
      · cases h2
    · cases h1
def RFreshP (L : Bs) (As As' : List T) (w : World) (B rb : Nat) (Ps : List PV) (e : Ending) (w' : World) : Prop := e = .returned (.int .i64 (As.length : Int)) ∧ ∃ p', RM w' B rb p' Ps ∧ PA w' p' L As' ∧ RF B rb w w'
set_option maxRecDepth 100000 in
set_option maxHeartbeats 4000000 in
theorem rfresh9_any {w : World} {B rb : Nat} {p : PV} {Ps : List PV} {L : Bs} {As : List T} (h : RM w B rb p Ps) (hp : PA w p L As) (hA : As.length ≤ 1000000) (n : Int) :
    Calls Try.prog 13 #[.pointer (some ⟨rb, 0, none⟩), .int .i64 n] w fun e w' => RFreshP L As (As ++ List.replicate (fresh n) noneT) w B rb Ps e w' := by
  obtain ⟨MA, mc, x0, x1, x2, x3, _, hl, _, _⟩ := h.box
  have hpn1 := Nat.le_of_eq hp.n
  have hpn2 := Nat.le_of_eq hp.n.symm
  have hpm1 := Nat.le_of_eq hp.am
  have hpm2 := Nat.le_of_eq hp.am.symm
  have hBw : B ≤ w.heap.size := by have := h.ge; omega
  have R5 := Lib.hid h
  have P5 := Lib.hid hp
  obtain ⟨ts, ho1, hat⟩ := hp.at_
  obtain ⟨s1, s2, s3, s4⟩ := row_src ho1
  have S4 := Lib.hid s4
  have AT5 := Lib.hid hat
  have S1 := Lib.hid s1
  have hlt1 := Nat.le_of_eq hat.len
  have hlt2 := Nat.le_of_eq hat.len.symm
  obtain ⟨us, hus⟩ : ∃ us, us = ts.flatMap TV.vals := ⟨_, rfl⟩
  have HUS := Lib.hid hus
  rw [← hus] at s3
  have HS3 := Lib.hid s3
  obtain ⟨k, hk⟩ : ∃ k, fresh n = k := ⟨_, rfl⟩
  have hkle : k ≤ 1000 := by rw [← hk]; exact fresh_le n
  rw [hk]
  have HK := Lib.hid hk
  clear s4 hat s1 ho1 hus s3 h hp hk
  go_enter Try.func13, Try.ntmps13
  go_upto_region 2 with fail
  go_cut [1] (fun s wx => s = .int .i64 (k : Int) ∧ w = wx)
  case first =>
    go_wp2_with fail
    all_goals
      go_meet
    all_goals exact ⟨congrArg (Value.int IntKind.i64) (by have := HK.out; unfold fresh at this; omega), rfl⟩
  case rest =>
  obtain ⟨rfl, rfl⟩ := hcut
  go_wp2_with (at_builtin; go_must (refine wpList_append_cells _ rfl _ _ _ rfl elTerm w.heap.size _ 0 [] rfl (ownsRow_empty _ _ _ _ (heap_alloc_new _ _)) p.AA p.am p.ac us rfl S1.out s2 HS3.out ?_ (by rw [HUS.out]; exact flat_one) (by omega) (by unfold maxLen; omega) (by simp) ?_))
  · intro h0
    obtain ⟨b, off, hA, hb, hc⟩ := S4.out h0
    refine ⟨b, off, hA, fun j u hj => ?_⟩
    rw [HUS.out] at hj
    exact ((belS (Below.refl w.heap.size w) (Obj.cells #[] 40)).cell (p := ⟨b, off + j, none⟩) hb).trans (hc j u hj)
  intro v2 w2 hown2 hg2
  have B2 := Lib.hid (show Below w.heap.size w w2 from (belS (Below.refl w.heap.size w) (Obj.cells #[] 40)).grown hg2 (by simp) fun k hk => by simp [Value.ownBlock] at hk; omega)
  have hown3 : w2.ownsRow w.heap.size 40 4 v2 p.am us := hown2
  obtain ⟨v3, w3, hrun, hown4, hg4⟩ := run_append_own_zeros (P := Try.prog) w2 (ty := 30) (kq := .i64) elTerm Try.underlying3 zeros_terms_one hown3 k (by unfold maxLen; omega) (by omega) B2.out.size
  rw [zeros_terms] at hown4
  have B3 := Lib.hid (show Below w.heap.size w w3 from B2.out.grown hg4 B2.out.size fun q hq => (hown3.lt q hq).1)
  have hown5 : w3.ownsRow w.heap.size 40 4 v3 (p.am + k) ((ts ++ List.replicate k TV.zero).flatMap TV.vals) := by
    rw [List.flatMap_append, ← HUS.out]
    exact hown4
  obtain ⟨A9, c9, rfl, _, _, _, hx9⟩ := own_open hown5
  have R3 := Lib.hid (R5.out.below B3.out)
  obtain ⟨MA3, mc3, d0, d1, d2, d3, df, dl, _, _⟩ := R3.out.box
  have W1 := Lib.hid (R3.out.write 2 (.slice A9 (p.am + k) c9) ⟨p.n, p.LA, p.ln, p.lc, A9, p.am + k, c9⟩ (fun m => rfl))
  have W2 := Lib.hid (W1.out.1.write 0 (.int .i64 ((p.n + k : Nat) : Int)) ⟨p.n + k, p.LA, p.ln, p.lc, A9, p.am + k, c9⟩ (fun m => rfl))
  have RF3 := Lib.hid (W1.out.2.trans W2.out.2)
  have P3 := Lib.hid ((P5.out.below B3.out).rf RF3.out)
  have ROW := Lib.hid (show ((w3.setCell ⟨rb, 2, none⟩ (.slice A9 (p.am + k) c9)).setCell ⟨rb, 0, none⟩ (.int .i64 ((p.n + k : Nat) : Int))).ownsRow 0 40 4 (.slice A9 (p.am + k) c9) (p.am + k) ((ts ++ List.replicate k TV.zero).flatMap TV.vals) from
    own_keep (ownsRow_more hown5 (Nat.zero_le _)) fun g hg => by
      obtain ⟨cs, f, hh⟩ := Go.Lib.ownsRow_kind hown5 g hg
      exact (RF3.out.far g _ hh (notRf_of (by decide))).trans hh.symm)
  have A9' := Lib.hid (((AT5.out.keep fun ht => ht.below B3.out).rf RF3.out).zeros k)
  have FIN := Lib.hid (show ∀ W, W = (w3.setCell ⟨rb, 2, none⟩ (.slice A9 (p.am + k) c9)).setCell ⟨rb, 0, none⟩ (.int .i64 ((p.n + k : Nat) : Int)) → ∀ z : Int, z = (As.length : Int) → RFreshP L As (As ++ List.replicate k noneT) w B rb Ps (.returned (.int .i64 z)) W from fun W hW z hz => by
    subst hW; subst hz
    exact ⟨rfl, _, W2.out.1, ⟨by have := P5.out.n; simp; omega, P3.out.ln, by have := P5.out.am; simp; omega, P3.out.bl, P3.out.ok, _, ROW.out, A9'.out⟩, (RF.below hBw B3.out).trans RF3.out⟩)
  clear hown2 hown3 hg2 hown4 hown5 hg4 hx9
  obtain ⟨MA2, mc2, e0, e1, e2, e3, ef, el, _, _⟩ := (R5.out.below B2.out).box
  go_wp2_with (at_builtin; refine Lib.wpList_append_run _ rfl _ _ _ _ rfl _ _ rfl rfl _ _ hrun ?_)
  go_ret
  exact FIN.out _ (by simp) _ (by have := P5.out.n; omega)
end Go.Proofs.Ytgoedlbdnmhppaa
namespace Go.Proofs.Ytgoedlbdnmhppaa
open Go.RowKit

/-- What Compare calls the same. -/
def eqT : T → T → Prop
  | .mk k n s m a, .mk k' n' s' m' a' => k = k' ∧ (k = 1 ∨ k = 2 → n = n') ∧ (k = 3 → s = s') ∧ (k ≠ 1 → k ≠ 2 → k ≠ 3 → m = m' ∧ s = s' ∧ ∀ i, i < m → eqT (a i) (a' i))
  | _, _ => False
theorem eqT_refl : ∀ {t : T}, t.thin → eqT t t
  | .nil, h => h.elim
  | .mk _ _ _ _ _, h => ⟨rfl, fun _ => rfl, fun _ => rfl, fun _ _ _ => ⟨rfl, rfl, fun i hi => eqT_refl (h.2 i hi)⟩⟩
end Go.Proofs.Ytgoedlbdnmhppaa
namespace Go.Proofs.Ytgoedlbdnmhppaa
open Go.RowKit
attribute [local go_sem ↓] Go.wp_at_zero Go.wp_at_succ

theorem less_irrefl : ∀ l : List UInt8, Op.bytesLess l l = false
  | [] => rfl
  | a :: l => by simp [Op.bytesLess, less_irrefl l]
/-- A number that is 0 just if something holds. -/
def Zero (P : Prop) (w : World) (e : Ending) (w' : World) : Prop := (∃ c : Int, e = .returned (.int .i64 c) ∧ (c = 0 ↔ P) ∧ -1 ≤ c ∧ c ≤ 1) ∧ Below w.heap.size w w'
theorem order_any (a b : Int) (w : World) : Calls Try.prog 55 #[.int .i64 a, .int .i64 b] w fun e w' => Zero (a = b) w e w' := by
  rcases Int.lt_trichotomy a b with h | h | h
  · go_enter Try.func55, Try.ntmps55
    go_wp2_with fail
    go_ret
    exact ⟨⟨-1, rfl, ⟨fun h => by omega, fun h => by omega⟩, by omega, by omega⟩, Below.refl _ _⟩
  · have h1 : ¬ a < b := by omega
    have h2 : ¬ b < a := by omega
    have H := Lib.hid h
    clear h
    go_enter Try.func55, Try.ntmps55
    go_wp2_with fail
    go_ret
    exact ⟨⟨0, rfl, ⟨fun _ => H.out, fun _ => rfl⟩, by omega, by omega⟩, Below.refl _ _⟩
  · have h1 : ¬ a < b := by omega
    go_enter Try.func55, Try.ntmps55
    go_wp2_with fail
    go_ret
    exact ⟨⟨1, rfl, ⟨fun h => by omega, fun h => by omega⟩, by omega, by omega⟩, Below.refl _ _⟩
theorem texts_any (a b : ByteArray) (w : World) : Calls Try.prog 56 #[.string a, .string b] w fun e w' => Zero (a = b) w e w' := by
  by_cases h : a = b
  · have h1 : Op.bytesLess a.toList b.toList = false := by rw [h]; exact less_irrefl _
    have h2 : (!a.toList == b.toList) = false := by rw [h]; simp
    have H := Lib.hid h
    clear h
    go_enter Try.func56, Try.ntmps56
    go_wp2_with fail
    go_ret
    exact ⟨⟨0, rfl, ⟨fun _ => H.out, fun _ => rfl⟩, by omega, by omega⟩, Below.refl _ _⟩
  · have h2 : (!a.toList == b.toList) = true := by
      simp only [Bool.not_eq_true', beq_eq_false_iff_ne]
      exact fun e => h (bytes_eq e)
    have H := Lib.hid h
    clear h
    cases h1 : Op.bytesLess a.toList b.toList
    · go_enter Try.func56, Try.ntmps56
      go_wp2_with fail
      go_ret
      exact ⟨⟨1, rfl, ⟨fun h => by omega, fun h => absurd h H.out⟩, by omega, by omega⟩, Below.refl _ _⟩
    · go_enter Try.func56, Try.ntmps56
      go_wp2_with fail
      go_ret
      exact ⟨⟨-1, rfl, ⟨fun h => by omega, fun h => absurd h H.out⟩, by omega, by omega⟩, Below.refl _ _⟩
set_option maxRecDepth 100000 in
set_option maxHeartbeats 8000000 in
theorem cmp_any : ∀ (t u : T), t.thin → u.thin → ∀ (v v' : Value) (w : World) (S S' : Nat → Prop), TP w S t v → TP w S' u v' →
    Calls Try.prog 47 #[v, v'] w fun e w' => Zero (eqT t u) w e w' := by
  intro t
  induction t with
  | nil => exact fun u h => h.elim
  | mk k n s m a ih =>
    intro u
    cases u with
    | nil => exact fun _ h => h.elim
    | mk k' n' s' m' a' =>
    intro ht hu v v' w S S' hv hv'
    obtain ⟨A, c, rfl, hmc, hA, hx⟩ := hv
    obtain ⟨A', c', rfl, hmc', hA', hx'⟩ := hv'
    have HX := Lib.hid hx
    have HX' := Lib.hid hx'
    have HT := Lib.hid ht
    have HU := Lib.hid hu
    have IH := Lib.hid ih
    have hm : m ≤ 1000 := ht.1
    have hm' : m' ≤ 1000 := hu.1
    have BX := Lib.hid (belA (belA (Below.refl w.heap.size w) (Obj.cells #[.int .i64 k, .int .i64 n, .string s, .slice A m c] 40)) (Obj.cells #[.int .i64 k', .int .i64 n', .string s', .slice A' m' c'] 40))
    have hz1 : (0 : Int) ≤ m := by omega
    have hz2 : (0 : Int) ≤ m' := by omega
    clear hx hx' ht hu ih hA hA'
    have EQ := Lib.hid (show eqT (.mk k n s m a) (.mk k' n' s' m' a') ↔ (k = k' ∧ (k = 1 ∨ k = 2 → n = n') ∧ (k = 3 → s = s') ∧ (k ≠ 1 → k ≠ 2 → k ≠ 3 → m = m' ∧ s = s' ∧ ∀ i, i < m → eqT (a i) (a' i))) from Iff.rfl)
    obtain ⟨P, hP⟩ : ∃ P, eqT (.mk k n s m a) (.mk k' n' s' m' a') = P := ⟨_, rfl⟩
    rw [hP] at EQ ⊢
    clear hP
    by_cases hk : k = k'
    · obtain rfl : k' = k := hk.symm
      have hkk : (k' != k') = false := by simp
      clear hk
      by_cases h12 : k' = 1 ∨ k' = 2
      · have HK := Lib.hid h12
        have FIN := Lib.hid (show (n = n') ↔ P from ⟨fun h => EQ.out.mpr ⟨rfl, fun _ => h, fun h3 => by omega, fun h1 h2 _ => by omega⟩, fun h => (EQ.out.mp h).2.1 HK.out⟩)
        rcases h12 with h1 | h2
        · have h1' : (k' == 1) = true := by simpa using h1
          clear h1
          go_enter Try.func47, Try.ntmps47
          go_wp2_with fail
          refine (order_any n n' _).mono ?_
          rintro e w5 ⟨⟨z, rfl, hz, hz3, hz4⟩, h5⟩
          have HZ := Lib.hid (show z = 0 ↔ P from hz.trans FIN.out)
          have H5 := Lib.hid (BX.out.trans (h5.mono BX.out.size))
          clear hz h5
          go_wp2_with fail
          go_ret
          exact ⟨⟨z, rfl, HZ.out, hz3, hz4⟩, H5.out⟩
        · have h1' : (k' == 1) = false := by simp [h2]
          have h2' : (k' == 2) = true := by simpa using h2
          clear h2
          go_enter Try.func47, Try.ntmps47
          go_wp2_with fail
          refine (order_any n n' _).mono ?_
          rintro e w5 ⟨⟨z, rfl, hz, hz3, hz4⟩, h5⟩
          have HZ := Lib.hid (show z = 0 ↔ P from hz.trans FIN.out)
          have H5 := Lib.hid (BX.out.trans (h5.mono BX.out.size))
          clear hz h5
          go_wp2_with fail
          go_ret
          exact ⟨⟨z, rfl, HZ.out, hz3, hz4⟩, H5.out⟩
      · have h1' : (k' == 1) = false := by simpa using fun h => h12 (.inl h)
        have h2' : (k' == 2) = false := by simpa using fun h => h12 (.inr h)
        have K12 := Lib.hid h12
        clear h12
        by_cases h3 : k' = 3
        · have h3' : (k' == 3) = true := by simpa using h3
          have HK := Lib.hid h3
          clear h3
          have FIN := Lib.hid (show (s = s') ↔ P from ⟨fun h => EQ.out.mpr ⟨rfl, fun h => absurd h K12.out, fun _ => h, fun _ _ h => absurd HK.out h⟩, fun h => (EQ.out.mp h).2.2.1 HK.out⟩)
          go_enter Try.func47, Try.ntmps47
          go_wp2_with fail
          refine (texts_any s s' _).mono ?_
          rintro e w5 ⟨⟨z, rfl, hz, hz3, hz4⟩, h5⟩
          have HZ := Lib.hid (show z = 0 ↔ P from hz.trans FIN.out)
          have H5 := Lib.hid (BX.out.trans (h5.mono BX.out.size))
          clear hz h5
          go_wp2_with fail
          go_ret
          exact ⟨⟨z, rfl, HZ.out, hz3, hz4⟩, H5.out⟩
        · have h3' : (k' == 3) = false := by simpa using h3
          have FIN := Lib.hid (show (m = m' ∧ s = s' ∧ ∀ i, i < m → eqT (a i) (a' i)) ↔ P from ⟨fun h => EQ.out.mpr ⟨rfl, fun h => absurd h K12.out, fun h => absurd h h3, fun _ _ _ => h⟩, fun h => (EQ.out.mp h).2.2.2 (fun h => K12.out (.inl h)) (fun h => K12.out (.inr h)) h3⟩)
          clear h3
          by_cases hmm : m = m'
          · subst hmm
            have hmn : ((m : Int) != (m : Int)) = false := by simp
            by_cases hss : s = s'
            · have hsn : (!s.toList == s'.toList) = false := by rw [hss]; simp
              have HS := Lib.hid hss
              clear hss
              have B0 := Lib.hid BX.out
              go_enter Try.func47, Try.ntmps47
              go_wp2_with fail
              go_loopw [5, 6] (fun iv _ wr => ∃ i : Nat, iv = .int .i64 (i : Int) ∧ i ≤ m ∧ (∀ q, q < i → eqT (a q) (a' q)) ∧ Below w.heap.size w wr ∧ wr.heap[w.heap.size]? = some (.cells #[.int .i64 k', .int .i64 n, .string s, .slice A m c] 40 (0, 0)) ∧ wr.heap[w.heap.size + 1]? = some (.cells #[.int .i64 k', .int .i64 n', .string s', .slice A' m c'] 40 (0, 0))) (fun iv _ _ => m - (intOf iv).toNat)
              case atStart => exact ⟨0, rfl, Nat.zero_le _, fun q hq => absurd hq (by omega), BX.out, (Below.heap_alloc _ _ _ (by simp)).trans (heap_alloc_new _ _), (congrArg _ (by simp)).trans (heap_alloc_new _ _)⟩
              case round =>
                obtain ⟨i, rfl, hi, hq, hb, hb0, hb1⟩ := hrel
                have HQ := Lib.hid hq
                have HB := Lib.hid hb
                have X0 := Lib.hid hb0
                have X1 := Lib.hid hb1
                obtain ⟨x0, x1, x2, x3⟩ := box4 hb0
                obtain ⟨y0, y1, y2, y3⟩ := box4 hb1
                have hl0 := heap_lt hb0
                have hl1 := heap_lt hb1
                clear hq hb hb0 hb1
                by_cases him : i < m
                · have him' : (i : Int) < (m : Int) := by omega
                  obtain ⟨b, cs, f, rfl, hSb, hbb, hcell⟩ := HX.out (by omega)
                  obtain ⟨b', cs', f', rfl, hSb', hbb', hcell'⟩ := HX'.out (by omega)
                  obtain ⟨t0, t1, t2, t3, c0, c1, c2, c3, ta⟩ := hcell i him
                  obtain ⟨u0, u1, u2, U0, um, uc, he⟩ := ta.agg
                  injection he with he
                  simp only [Array.mk.injEq, List.cons.injEq, and_true] at he
                  obtain ⟨rfl, rfl, rfl, rfl⟩ := he
                  obtain ⟨t0, t1, t2, t3, d0, d1, d2, d3, tb⟩ := hcell' i him
                  obtain ⟨v0, v1, v2, V0, vm, vc, he⟩ := tb.agg
                  injection he with he
                  simp only [Array.mk.injEq, List.cons.injEq, and_true] at he
                  obtain ⟨rfl, rfl, rfl, rfl⟩ := he
                  have hbw := (HB.out.block b (heap_lt hbb)).trans hbb
                  have hbw' := (HB.out.block b' (heap_lt hbb')).trans hbb'
                  have hbl := heap_lt hbw
                  have hbl' := heap_lt hbw'
                  have KP := Lib.hid (show ∀ w', Below wr.heap.size wr w' → w'.cell? ⟨w.heap.size, 3, none⟩ = some (.slice (some ⟨b, 0, none⟩) m c) ∧ w'.cell? ⟨w.heap.size + 1, 3, none⟩ = some (.slice (some ⟨b', 0, none⟩) m c') ∧ w'.cell? ⟨b, i * 4, none⟩ = some (.int .i64 u0) ∧ w'.cell? ⟨b, i * 4 + 1, none⟩ = some (.int .i64 u1) ∧ w'.cell? ⟨b, i * 4 + 2, none⟩ = some (.string u2) ∧ w'.cell? ⟨b, i * 4 + 3, none⟩ = some (.slice U0 um uc) ∧ w'.cell? ⟨b', i * 4, none⟩ = some (.int .i64 v0) ∧ w'.cell? ⟨b', i * 4 + 1, none⟩ = some (.int .i64 v1) ∧ w'.cell? ⟨b', i * 4 + 2, none⟩ = some (.string v2) ∧ w'.cell? ⟨b', i * 4 + 3, none⟩ = some (.slice V0 vm vc) from fun w' hw => by
                    have r := fun (j : Nat) => (hw.cell (p := ⟨b, j, none⟩) hbl).trans (cell_of_row wr b j _ _ _ hbw)
                    have r' := fun (j : Nat) => (hw.cell (p := ⟨b', j, none⟩) hbl').trans (cell_of_row wr b' j _ _ _ hbw')
                    rw [Nat.mul_comm 4 i] at c0 c1 c2 c3 d0 d1 d2 d3
                    exact ⟨(hw.cell (p := ⟨w.heap.size, 3, none⟩) hl0).trans x3, (hw.cell (p := ⟨w.heap.size + 1, 3, none⟩) hl1).trans y3, (r _).trans c0, (r _).trans c1, (r _).trans c2, (r _).trans c3, (r' _).trans d0, (r' _).trans d1, (r' _).trans d2, (r' _).trans d3⟩)
                  have b0 := (Below.refl wr.heap.size wr).drew
                  have CI := Lib.hid (IH.out i (a' i) (HT.out.2 i him) (HU.out.2 i him) _ _ wr.drew S S' ((ta.below (w' := wr) HB.out).below b0) ((tb.below (w' := wr) HB.out).below b0))
                  obtain ⟨Q, hQ⟩ : ∃ Q, eqT (a i) (a' i) = Q := ⟨_, rfl⟩
                  rw [hQ] at CI
                  have HQQ := Lib.hid hQ
                  clear hcell hcell' c0 c1 c2 c3 d0 d1 d2 d3 ta tb hbb hbb' hbw hbw' x0 x1 x2 y0 y1 y2 hQ
                  go_wp2_with fail
                  go_region_held3 (fun w' => w'.cell? ⟨w.heap.size, 3, none⟩ = some (.slice (some ⟨b, 0, none⟩) m c) ∧ w'.cell? ⟨w.heap.size + 1, 3, none⟩ = some (.slice (some ⟨b', 0, none⟩) m c') ∧ w'.cell? ⟨b, i * 4, none⟩ = some (.int .i64 u0) ∧ w'.cell? ⟨b, i * 4 + 1, none⟩ = some (.int .i64 u1) ∧ w'.cell? ⟨b, i * 4 + 2, none⟩ = some (.string u2) ∧ w'.cell? ⟨b, i * 4 + 3, none⟩ = some (.slice U0 um uc) ∧ w'.cell? ⟨b', i * 4, none⟩ = some (.int .i64 v0) ∧ w'.cell? ⟨b', i * 4 + 1, none⟩ = some (.int .i64 v1) ∧ w'.cell? ⟨b', i * 4 + 2, none⟩ = some (.string v2) ∧ w'.cell? ⟨b', i * 4 + 3, none⟩ = some (.slice V0 vm vc))
                    (first | (with_reducible exact KP.out _ b0) | (with_reducible exact KP.out _ b5))
                    (((with_reducible refine CI.out.mono ?_); rintro e w5 ⟨⟨z, rfl, hz, hz3, hz4⟩, h5⟩; have b5 := b0.trans h5))
                  have B5 := Lib.hid b5
                  have HZ := Lib.hid hz
                  have X05 := Lib.hid ((b5.block _ hl0).trans X0.out)
                  have X15 := Lib.hid ((b5.block _ hl1).trans X1.out)
                  have BW5 := Lib.hid (HB.out.trans (b5.mono HB.out.size))
                  clear hz h5 b5 b0 x3 y3
                  cases hz0 : (z != 0)
                  · have HE := Lib.hid (show eqT (a i) (a' i) from by rw [HQQ.out]; exact HZ.out.mp (by simpa using hz0))
                    go_wp2_with fail
                    go_roundw
                    case rel => exact ⟨i + 1, by go_num, by omega, fun q hq => by
                      rcases Nat.lt_or_ge q i with h | h
                      · exact HQ.out q h
                      · obtain rfl : q = i := by omega
                        exact HE.out, BW5.out, X05.out, X15.out⟩
                    case measure => simp [intOf]; omega
                  · have HE := Lib.hid (show z = 0 ↔ P from ⟨fun h => absurd h (by simpa using hz0), fun h => HZ.out.mpr (by rw [← HQQ.out]; exact (FIN.out.mpr h).2.2 i him)⟩)
                    go_wp2_with fail
                    go_ret
                    exact ⟨⟨z, rfl, HE.out, hz3, hz4⟩, BW5.out⟩
                · obtain rfl : i = m := by omega
                  have HP := Lib.hid (FIN.out.mp ⟨by trivial, HS.out, HQ.out⟩)
                  go_wp2_with fail
                  go_ret
                  exact ⟨⟨0, rfl, ⟨fun _ => HP.out, fun _ => rfl⟩, by omega, by omega⟩, HB.out⟩
            · have hsn : (!s.toList == s'.toList) = true := by
                simp only [Bool.not_eq_true', beq_eq_false_iff_ne]
                exact fun e => hss (bytes_eq e)
              have HS := Lib.hid hss
              clear hss
              go_enter Try.func47, Try.ntmps47
              go_wp2_with fail
              refine (texts_any s s' _).mono ?_
              rintro e w5 ⟨⟨z, rfl, hz, hz3, hz4⟩, h5⟩
              have HZ := Lib.hid (show z = 0 ↔ P from ⟨fun h => absurd (hz.mp h) HS.out, fun h => absurd (FIN.out.mpr h).2.1 HS.out⟩)
              have H5 := Lib.hid (BX.out.trans (h5.mono BX.out.size))
              clear hz h5
              go_wp2_with fail
              go_ret
              exact ⟨⟨z, rfl, HZ.out, hz3, hz4⟩, H5.out⟩
          · have hmn : ((m : Int) != (m' : Int)) = true := by simp; omega
            have HM := Lib.hid hmm
            clear hmm
            go_enter Try.func47, Try.ntmps47
            go_wp2_with fail
            refine (order_any (m : Int) (m' : Int) _).mono ?_
            rintro e w5 ⟨⟨z, rfl, hz, hz3, hz4⟩, h5⟩
            have HZ := Lib.hid (show z = 0 ↔ P from ⟨fun h => absurd (by have := hz.mp h; omega) HM.out, fun h => absurd (FIN.out.mpr h).1 HM.out⟩)
            have H5 := Lib.hid (BX.out.trans (h5.mono BX.out.size))
            clear hz h5
            go_wp2_with fail
            go_ret
            exact ⟨⟨z, rfl, HZ.out, hz3, hz4⟩, H5.out⟩
    · have hkk : (k != k') = true := by simpa using hk
      have HK := Lib.hid hk
      clear hk
      go_enter Try.func47, Try.ntmps47
      go_wp2_with fail
      refine (order_any k k' _).mono ?_
      rintro e w5 ⟨⟨z, rfl, hz, hz3, hz4⟩, h5⟩
      have HZ := Lib.hid (show z = 0 ↔ P from ⟨fun h => absurd (hz.mp h) HK.out, fun h => absurd (EQ.out.mp h).1 HK.out⟩)
      have H5 := Lib.hid (BX.out.trans (h5.mono BX.out.size))
      clear hz h5
      go_wp2_with fail
      go_ret
      exact ⟨⟨z, rfl, HZ.out, hz3, hz4⟩, H5.out⟩
set_option maxRecDepth 100000 in
theorem same_any {t u : T} (ht : t.thin) (hu : u.thin) {v v' : Value} {w : World} {S S' : Nat → Prop} (hv : TP w S t v) (hv' : TP w S' u v') {b : Bool} (hb : b = true ↔ eqT t u) :
    Calls Try.prog 38 #[v, v'] w fun e w' => e = .returned (.bool b) ∧ Below w.heap.size w w' := by
  obtain ⟨k0, n0, s0, A0, m0, c0, rfl⟩ := hv.agg
  obtain ⟨k1, n1, s1, A1, m1, c1, rfl⟩ := hv'.agg
  have BX := Lib.hid (belA (belA (Below.refl w.heap.size w) (Obj.cells #[.int .i64 k0, .int .i64 n0, .string s0, .slice A0 m0 c0] 40)) (Obj.cells #[.int .i64 k1, .int .i64 n1, .string s1, .slice A1 m1 c1] 40))
  have CI := Lib.hid (cmp_any t u ht hu _ _ _ S S' (hv.below BX.out) (hv'.below BX.out))
  have HB := Lib.hid hb
  clear hv hv' hb
  obtain ⟨P, hP⟩ : ∃ P, eqT t u = P := ⟨_, rfl⟩
  rw [hP] at CI HB
  clear hP
  go_enter Try.func38, Try.ntmps38
  go_wp2_with fail
  refine CI.out.mono ?_
  rintro e w5 ⟨⟨z, rfl, hz, hz3, hz4⟩, h5⟩
  have H5 := Lib.hid (BX.out.trans (h5.mono BX.out.size))
  have HZ := Lib.hid (show (z == 0) = b from by
    cases b with
    | true => simpa using hz.mpr (HB.out.mp rfl)
    | false => exact beq_eq_false_iff_ne.mpr fun h => by have := HB.out.mpr (hz.mp h); cases this)
  clear hz h5
  have hzb := HZ.out
  go_wp2_with fail
  go_ret
  exact ⟨rfl, H5.out⟩
end Go.Proofs.Ytgoedlbdnmhppaa
namespace Go.Proofs.Ytgoedlbdnmhppaa
open Go.RowKit

theorem backC_take (C : List CV) (R : List (CV × Nat)) (v : Nat) : (backC C R).take v = backC (C.take v) R := by
  induction R with
  | nil => rfl
  | cons e R ih =>
    show ((backC C R).set e.2 e.1).take v = (backC (C.take v) R).set e.2 e.1
    rw [List.take_set, ih]
/-- What is remembered at a mark. -/
structure MK where
  r : Nat
  v : Nat
  q : PV
  C : List CV
  L : Bs
  A : List T
def MK.m (h : MK) : Nat × Nat := (h.r, h.v)
structure Hp (C : List CV) (R : List (CV × Nat)) (h : MK) : Prop where
  r : h.r ≤ R.length
  v : h.v ≤ C.length
  len : h.v = h.C.length
  back : backC (C.take h.v) (R.drop h.r) = h.C
  tr : ∀ e ∈ R.take h.r, e.2 < h.v
theorem Hp.new (C : List CV) (R : List (CV × Nat)) (q : PV) (L : Bs) (A : List T) (ht : ∀ e ∈ R, e.2 < C.length) : Hp C R ⟨R.length, C.length, q, C, L, A⟩ :=
  ⟨Nat.le_refl _, Nat.le_refl _, rfl, by simp [backC], fun e he => ht e (List.mem_of_mem_take he)⟩
theorem Hp.fresh {C : List CV} {R : List (CV × Nat)} {h : MK} (hp : Hp C R h) (Z : List CV) : Hp (C ++ Z) R h :=
  ⟨hp.r, by have := hp.v; simp; omega, hp.len, by rw [List.take_append_of_le_length hp.v]; exact hp.back, hp.tr⟩
theorem Hp.grow {C C' : List CV} {R R2 : List (CV × Nat)} {h : MK} (hp : Hp C R h) (hb : backC C' R2 = C) (hl : C'.length = C.length) : Hp C' (R ++ R2) h := by
  refine ⟨by have := hp.r; simp; omega, by have := hp.v; omega, hp.len, ?_, fun e he => hp.tr e ?_⟩
  · rw [List.drop_append_of_le_length hp.r, backC_append, ← backC_take, hb]
    exact hp.back
  · rwa [List.take_append_of_le_length hp.r] at he
theorem Hp.undo {C : List CV} {R : List (CV × Nat)} {h h0 : MK} (hp : Hp C R h) (h0p : Hp C R h0) (hr : h.r ≤ h0.r) (hv : h.v ≤ h0.v) : Hp h0.C (R.take h0.r) h := by
  have hr0 := h0p.r
  refine ⟨by simp; omega, by have := h0p.len; omega, hp.len, ?_, fun e he => ?_⟩
  · rw [← h0p.back, backC_take, List.take_take, Nat.min_eq_left hv, ← backC_append]
    have : (R.take h0.r).drop h.r ++ R.drop h0.r = R.drop h.r := by
      conv => rhs; rw [← List.take_append_drop h0.r R]
      rw [List.drop_append_of_le_length (by simp; omega)]
    rw [this]
    exact hp.back
  · rw [List.take_take, Nat.min_eq_left hr] at he
    exact hp.tr e he
/-- What a mark's memory is in the world. -/
structure Hw (w : World) (h : MK) : Prop where
  cl : CL w h.C h.L
  at_ : AT w (h.C.map CV.attr) h.A
  pa : PA w h.q h.L h.A
/-- Where a law stands: w0 is the world at its start. -/
structure LS (B : Nat) (w : World) (sb rb : Nat) (C : List CV) (R : List (CV × Nat)) (p : PV) (L : Bs) (As : List T) (Hs : List MK) : Prop where
  sm : SM w B sb C R (Hs.map MK.m)
  rm : RM w B rb p (Hs.map MK.q)
  pa : PA w p L As
  cl : CL w C L
  at_ : AT w (C.map CV.attr) As
  tr : ∀ e ∈ R, e.2 < C.length
  hp : ∀ (k : Nat) (h : MK), Hs[k]? = some h → Hp C R h
  hw : ∀ (k : Nat) (h : MK), Hs[k]? = some h → Hw w h
  mono : ∀ (j k : Nat) (h h' : MK), j ≤ k → Hs[j]? = some h → Hs[k]? = some h' → h.r ≤ h'.r ∧ h.v ≤ h'.v
theorem Hw.keep {w w' : World} {h : MK} (hw : Hw w h) (hk : ∀ {t : T} {v : Value}, TP w (fun _ => True) t v → TP w' (fun _ => True) t v) (hpa : PA w h.q h.L h.A → PA w' h.q h.L h.A) : Hw w' h := ⟨hw.cl.keep hk, hw.at_.keep hk, hpa hw.pa⟩
theorem Hw.below {w w' : World} {h : MK} (hw : Hw w h) (hb : Below w.heap.size w w') : Hw w' h := hw.keep (fun ht => ht.below hb) fun hp => hp.below hb
theorem Hw.sf {B : Nat} {w w' : World} {h : MK} (hw : Hw w h) (hb : SF B w w') : Hw w' h := hw.keep (fun ht => ht.sf hb) fun hp => hp.sf hb
theorem Hw.rf {B rb : Nat} {w w' : World} {h : MK} (hw : Hw w h) (hb : RF B rb w w') : Hw w' h := hw.keep (fun ht => ht.rf hb) fun hp => hp.rf hb
theorem LS.below {B : Nat} {w w' : World} {sb rb : Nat} {C : List CV} {R : List (CV × Nat)} {p : PV} {L : Bs} {As : List T} {Hs : List MK} (h : LS B w sb rb C R p L As Hs) (hb : Below w.heap.size w w') : LS B w' sb rb C R p L As Hs :=
  ⟨h.sm.below hb, h.rm.below hb, h.pa.below hb, h.cl.below hb, h.at_.keep fun ht => ht.below hb, h.tr, h.hp, fun k g hg => (h.hw k g hg).below hb, h.mono⟩
theorem LS.len {B : Nat} {w : World} {sb rb : Nat} {C : List CV} {R : List (CV × Nat)} {p : PV} {L : Bs} {As : List T} {Hs : List MK} (h : LS B w sb rb C R p L As Hs) : C.length = As.length ∧ p.n = C.length := by
  have h1 := h.at_.len
  have h2 := h.pa.n
  simp at h1
  exact ⟨h1, by omega⟩
theorem LS.size {B : Nat} {w : World} {sb rb : Nat} {C : List CV} {R : List (CV × Nat)} {p : PV} {L : Bs} {As : List T} {Hs : List MK} (h : LS B w sb rb C R p L As Hs) : B ≤ w.heap.size ∧ sb < w.heap.size ∧ rb < w.heap.size := by
  obtain ⟨_, _, _, hl⟩ := h.sm.lenAt
  obtain ⟨_, _, _, _, _, _, _, hl2, _, _⟩ := h.rm.box
  have := h.sm.ge
  exact ⟨by omega, hl, hl2⟩
/-! Both calls of one kind, one behind the other. -/
theorem LS.fresh {B : Nat} {w w1 w2 : World} {sb rb : Nat} {C : List CV} {R : List (CV × Nat)} {p p' : PV} {L : Bs} {As : List T} {Hs : List MK} (h : LS B w sb rb C R p L As Hs) (k : Nat)
    (h1 : SM w1 B sb (C ++ List.replicate k CV.zero) R (Hs.map MK.m)) (f1 : SF B w w1) (h2 : RM w2 B rb p' (Hs.map MK.q)) (hp2 : PA w2 p' L (As ++ List.replicate k noneT)) (f2 : RF B rb w1 w2) :
    LS B w2 sb rb (C ++ List.replicate k CV.zero) R p' L (As ++ List.replicate k noneT) Hs := by
  refine ⟨h1.rf f2, h2, hp2, ?_, ?_, fun e he => by have := h.tr e he; simp; omega, fun j g hg => (h.hp j g hg).fresh _, fun j g hg => ((h.hw j g hg).sf f1).rf f2, h.mono⟩
  · have hc := (h.cl.sf f1).rf f2
    refine ⟨hc.ok, fun q hq => by have := hc.inn q hq; simp; omega, fun q hq v hv => by have := hc.kn q hq v hv; simp; omega, fun i c hi => ?_⟩
    by_cases hlt : i < C.length
    · rw [List.getElem?_append_left hlt] at hi
      exact hc.cell i c hi
    · rw [List.getElem?_append_right (by omega), List.getElem?_replicate] at hi
      split at hi
      · injection hi with hi
        subst hi
        have hn : findB L (i : Int) = none := hc.far (by omega)
        exact ⟨fun _ => rfl, fun t ht => by rw [hn] at ht; cases ht⟩
      · cases hi
  · have := ((h.at_.sf f1).rf f2).zeros k
    rw [List.map_append, List.map_replicate]
    exact this
theorem LS.mark {B : Nat} {w w1 w2 : World} {sb rb : Nat} {C : List CV} {R : List (CV × Nat)} {p : PV} {L : Bs} {As : List T} {Hs : List MK} (h : LS B w sb rb C R p L As Hs)
    (h1 : SM w1 B sb C R (Hs.map MK.m ++ [(R.length, C.length)])) (f1 : SF B w w1) (h2 : RM w2 B rb p (Hs.map MK.q ++ [p])) (f2 : RF B rb w1 w2) :
    LS B w2 sb rb C R p L As (Hs ++ [⟨R.length, C.length, p, C, L, As⟩]) := by
  have hcl := (h.cl.sf f1).rf f2
  have hat := (h.at_.sf f1).rf f2
  have hpa := (h.pa.sf f1).rf f2
  have hnew := Hp.new C R p L As h.tr
  have key : ∀ (k : Nat) (g : MK), (Hs ++ [⟨R.length, C.length, p, C, L, As⟩])[k]? = some g → Hs[k]? = some g ∨ (k = Hs.length ∧ g = ⟨R.length, C.length, p, C, L, As⟩) := fun k g hg => by
    by_cases hlt : k < Hs.length
    · rw [List.getElem?_append_left hlt] at hg; exact .inl hg
    · rw [List.getElem?_append_right (by omega)] at hg
      have h0 : k = Hs.length := by
        rcases Nat.eq_zero_or_pos (k - Hs.length) with h | h
        · omega
        · rw [List.getElem?_eq_none (by simp; omega)] at hg; cases hg
      subst h0
      simp at hg
      exact .inr ⟨rfl, hg.symm⟩
  refine ⟨by rw [List.map_append]; exact h1.rf f2, by rw [List.map_append]; exact h2, hpa, hcl, hat, h.tr, fun k g hg => ?_, fun k g hg => ?_, fun j k g g' hjk hj hk => ?_⟩
  · rcases key k g hg with h0 | ⟨_, rfl⟩
    · exact h.hp k g h0
    · exact hnew
  · rcases key k g hg with h0 | ⟨_, rfl⟩
    · exact ((h.hw k g h0).sf f1).rf f2
    · exact ⟨hcl, hat, hpa⟩
  · rcases key k g' hk with h0 | ⟨e0, rfl⟩
    · rcases key j g hj with h3 | ⟨e3, rfl⟩
      · exact h.mono j k g g' hjk h3 h0
      · have := lt_of_at h0; omega
    · rcases key j g hj with h3 | ⟨e3, rfl⟩
      · exact ⟨(h.hp j g h3).r, (h.hp j g h3).v⟩
      · exact ⟨Nat.le_refl _, Nat.le_refl _⟩
theorem LS.undo {B : Nat} {w w1 w2 : World} {sb rb k : Nat} {C : List CV} {R : List (CV × Nat)} {p : PV} {L : Bs} {As : List T} {Hs : List MK} {g : MK} (h : LS B w sb rb C R p L As Hs) (hk : Hs[k]? = some g)
    (h1 : SM w1 B sb ((backC C (R.drop g.r)).take g.v) (R.take g.r) ((Hs.map MK.m).take (k + 1))) (f1 : SF B w w1) (h2 : RM w2 B rb g.q ((Hs.map MK.q).take (k + 1))) (f2 : RF B rb w1 w2) :
    LS B w2 sb rb g.C (R.take g.r) g.q g.L g.A (Hs.take (k + 1)) := by
  have hg := h.hp k g hk
  have hgw := ((h.hw k g hk).sf f1).rf f2
  rw [backC_take, hg.back] at h1
  have hlt := lt_of_at hk
  have key : ∀ (j : Nat) (x : MK), (Hs.take (k + 1))[j]? = some x → Hs[j]? = some x ∧ j ≤ k := fun j x hx => by
    rw [List.getElem?_take] at hx
    split at hx
    · exact ⟨hx, by omega⟩
    · cases hx
  refine ⟨by rw [List.map_take]; exact h1.rf f2, by rw [List.map_take]; exact h2, hgw.pa, hgw.cl, hgw.at_, fun e he => by have := hg.tr e he; have := hg.len; omega, fun j x hx => ?_, fun j x hx => ?_, fun i j x x' hij hi hj => ?_⟩
  · obtain ⟨hx, hjk⟩ := key j x hx
    obtain ⟨h3, h4⟩ := h.mono j k x g hjk hx hk
    exact (h.hp j x hx).undo hg h3 h4
  · exact ((h.hw j x (key j x hx).1).sf f1).rf f2
  · exact h.mono i j x x' hij (key i x hi).1 (key j x' hj).1
theorem CL.setAttr {w : World} {C : List CV} {L : Bs} (h : CL w C L) {n : Nat} {c : CV} (hc : C[n]? = some c) (hb : c.b = false) (a : TV) : CL w (C.set n ⟨false, c.to, a⟩) L := by
  refine ⟨h.ok, fun q hq => by rw [List.length_set]; exact h.inn q hq, fun q hq v hv => by rw [List.length_set]; exact h.kn q hq v hv, fun i c' hi => ?_⟩
  rw [List.getElem?_set] at hi
  by_cases e : n = i
  · subst e
    rw [if_pos rfl] at hi
    split at hi
    · injection hi with hi
      subst hi
      have := h.bound hc
      rw [hb] at this
      cases hf : findB L (n : Int) with
      | none => exact ⟨fun _ => rfl, fun t ht => by cases ht⟩
      | some t => rw [hf] at this; cases this
    · cases hi
  · rw [if_neg e] at hi
    exact h.cell i c' hi
theorem LS.set {B : Nat} {w w1 w2 : World} {sb rb n : Nat} {C : List CV} {R : List (CV × Nat)} {p p' : PV} {L : Bs} {As : List T} {Hs : List MK} {c : CV} {a : T} {v : TV} (h : LS B w sb rb C R p L As Hs) (hc : C[n]? = some c) (hb : c.b = false)
    (hv : TP w (fun _ => True) a (.agg #[.int .i64 v.k, .int .i64 v.n, .string v.s, .slice v.A v.m v.c])) (ha : a.aok)
    (h1 : SM w1 B sb (C.set n ⟨false, c.to, v⟩) (R ++ [(c, n)]) (Hs.map MK.m)) (f1 : SF B w w1) (h2 : RM w2 B rb p' (Hs.map MK.q)) (hp2 : PA w2 p' L (As.set n a)) (f2 : RF B rb w1 w2) :
    LS B w2 sb rb (C.set n ⟨false, c.to, v⟩) (R ++ [(c, n)]) p' L (As.set n a) Hs := by
  have hn := lt_of_at hc
  have hback : backC (C.set n ⟨false, c.to, v⟩) [(c, n)] = C := by
    show (C.set n _).set n c = C
    rw [List.set_set]
    apply List.ext_getElem?
    intro j
    rw [List.getElem?_set]
    by_cases e : n = j
    · subst e; rw [if_pos rfl, if_pos hn]; exact hc.symm
    · simp [e]
  refine ⟨h1.rf f2, h2, hp2, ((h.cl.sf f1).rf f2).setAttr hc hb v, ?_, fun e he => ?_, fun k g hg => (h.hp k g hg).grow hback (by simp), fun k g hg => ((h.hw k g hg).sf f1).rf f2, h.mono⟩
  · rw [List.map_set]
    exact ((h.at_.sf f1).rf f2).set ((hv.sf f1).rf f2) ha
  · rw [List.length_set]
    rcases List.mem_append.mp he with he | he
    · exact h.tr e he
    · simp at he; subst he; exact hn
theorem LS.unify {B : Nat} {w w1 w2 : World} {sb rb : Nat} {C C' : List CV} {R R' : List (CV × Nat)} {p p' : PV} {L L' Ns : Bs} {As : List T} {Hs : List MK} (h : LS B w sb rb C R p L As Hs) (hg : Grew C C' R R' Ns)
    (h1 : SM w1 B sb C' R' (Hs.map MK.m)) (hc : CL w1 C' L') (f1 : SF B w w1) (h2 : RM w2 B rb p' (Hs.map MK.q)) (hp2 : PA w2 p' L' As) (f2 : RF B rb w1 w2) :
    LS B w2 sb rb C' R' p' L' As Hs := by
  obtain ⟨R2, rfl, hb, _, hi⟩ := hg.ex
  have hmap : C'.map CV.attr = C.map CV.attr := by
    apply List.ext_getElem?
    intro j
    rw [List.getElem?_map, List.getElem?_map]
    cases hj : C'[j]? with
    | none =>
      have : C.length ≤ j := by
        rcases Nat.lt_or_ge j C.length with h | h
        · have := hg.len; rw [List.getElem?_eq_getElem (by omega)] at hj; cases hj
        · exact h
      rw [List.getElem?_eq_none this]
    | some c' =>
      obtain ⟨c, h3, h4⟩ := hg.at_ j c' hj
      rw [h3]
      simp [h4]
  refine ⟨h1.rf f2, h2, hp2, hc.rf f2, by rw [hmap]; exact (h.at_.sf f1).rf f2, fun e he => ?_, fun k g hk => (h.hp k g hk).grow hb hg.len, fun k g hk => ((h.hw k g hk).sf f1).rf f2, h.mono⟩
  rw [hg.len]
  rcases List.mem_append.mp he with he | he
  · exact h.tr e he
  · exact hi e he
/-- Where neither has changed, but for new memory. -/
theorem LS.still {B : Nat} {w w1 w2 : World} {sb rb : Nat} {C : List CV} {R : List (CV × Nat)} {p p' : PV} {L : Bs} {As : List T} {Hs : List MK} (h : LS B w sb rb C R p L As Hs)
    (h1 : SM w1 B sb C R (Hs.map MK.m)) (f1 : SF B w w1) (h2 : RM w2 B rb p' (Hs.map MK.q)) (hp2 : PA w2 p' L As) (f2 : RF B rb w1 w2) : LS B w2 sb rb C R p' L As Hs :=
  ⟨h1.rf f2, h2, hp2, (h.cl.sf f1).rf f2, (h.at_.sf f1).rf f2, h.tr, h.hp, fun k g hg => ((h.hw k g hg).sf f1).rf f2, h.mono⟩
theorem LS.start {w1 w2 : World} {sb rb : Nat} {B : Nat} (h1 : SM w1 B sb [] [] []) (h2 : RM w2 B rb PV.zero []) (f2 : RF B rb w1 w2) : LS B w2 sb rb [] [] PV.zero [] [] [] :=
  ⟨h1.rf f2, h2, PA.zero _, ⟨EnvOk.nil, fun p hp => (by cases hp), fun p hp => (by cases hp), fun i c hc => by simp at hc⟩, ⟨rfl, fun i v a h => by simp at h⟩, (fun e he => by cases he), (fun k h hk => by simp at hk), (fun k h hk => by simp at hk), (fun j k h h' _ hj => by simp at hj)⟩
end Go.Proofs.Ytgoedlbdnmhppaa
namespace Go.Proofs.Ytgoedlbdnmhppaa
open Go.RowKit

/-- clear(s[o:]), s a row. -/
theorem run_clear_part {P : Program} (w : World) (t ty e : TypeId) (z : Value) (i : TypeInfo) (ht : P.underlying t = some (.slice e)) (hi : P.info? e = some i) (hz : i.zero = some z)
    (g o m c : Nat) (cur : Array Value) (hg : w.heap[g]? = some (.cells cur e (0, 0))) (hm : 0 < m) (h1 : ∀ u ∈ (Builtin.zeroCells z.cells m).toList, u.oneCell' = true) (hfit : o + (Builtin.zeroCells z.cells m).toList.length ≤ cur.size) :
    (Builtin.clear_ #[t] ty #[.slice (some ⟨g, o, none⟩) m c]).run P w = .ok (.tuple #[]) (w.setRow g (cur.toList.take o ++ (Builtin.zeroCells z.cells m).toList ++ cur.toList.drop (o + (Builtin.zeroCells z.cells m).toList.length)).toArray) := by
  have hst := run_storeCells_at P g o e (Builtin.zeroCells z.cells m).toList 0 cur w hg (by simpa using hfit) h1
  simp only [Nat.add_zero] at hst
  obtain ⟨k, rfl⟩ : ∃ k, m = k + 1 := ⟨m - 1, by omega⟩
  simp [Builtin.clear_, run_underlying ht, zeroValue, typeInfo, hi, hz] at hst ⊢
  simp [hst]
/-- The cells from the v-th on cleared, and struck. -/
theorem SM.struck {w w1 W : World} {B sb v : Nat} {C : List CV} {R : List (CV × Nat)} {M : List (Nat × Nat)} {A0 A1 A2 : Option Addr} {c0 c1 c2 : Nat}
    (hb : w.heap[sb]? = some (.cells #[.slice A0 C.length c0, .slice A1 R.length c1, .slice A2 M.length c2] 62 (0, 0)))
    (h0 : w.ownsRow B 70 9 (.slice A0 C.length c0) C.length (C.flatMap CV.vals)) (h1 : w.ownsRow B 72 10 (.slice A1 R.length c1) R.length (R.flatMap evals)) (h2 : w.ownsRow B 64 2 (.slice A2 M.length c2) M.length (M.flatMap mvals))
    (hge : B ≤ sb) (hv : v ≤ C.length) {k : Nat} (hk : k ≤ M.length) (hB : w.grownBy w1 (Value.slice A0 C.length c0).ownBlock) (hrow : w1.ownsRow B 70 9 (.slice A0 v c0) v ((C.take v).flatMap CV.vals))
    (hW : W = (w1.setCell ⟨sb, 0, none⟩ (.slice A0 v c0)).setCell ⟨sb, 2, none⟩ (.slice A2 k c2)) : SM W B sb (C.take v) R (M.take k) ∧ SF B w W := by
  have hbs : B ≤ w.heap.size := by have := heap_lt hb; omega
  have b1 := keepBox hb h0 (Below.refl _ _) hB (by decide)
  have b2 : W.heap[sb]? = some (.cells #[.slice A0 v c0, .slice A1 R.length c1, .slice A2 k c2] 62 (0, 0)) := by
    have := blk_set (blk_set b1 0 (.slice A0 v c0)) 2 (.slice A2 k c2)
    rw [hW]
    simpa using this
  have keepW : ∀ (k : Nat) (cs : Array Value) (ty : TypeId) (f : Nat × Nat), w1.heap[k]? = some (.cells cs ty f) → ty ≠ 62 → W.heap[k]? = some (.cells cs ty f) := fun k cs ty f hk hne => by
    have hks : k ≠ sb := by
      rintro rfl
      rw [b1] at hk
      injection hk with hk
      injection hk with _ hk
      exact hne hk.symm
    rw [hW]
    exact (Below.heap_setCell _ _ _ k hks).trans ((Below.heap_setCell _ _ _ k hks).trans hk)
  have rowW : ∀ {t : TypeId} {s n : Nat} {v : Value} {xs : List Value}, w1.ownsRow B t s v n xs → t ≠ 62 → W.ownsRow B t s v n xs := fun h hne => by
    refine own_keep h fun k hk => ?_
    obtain ⟨cs, f, hh⟩ := Go.Lib.ownsRow_kind h k hk
    exact (keepW _ _ _ _ hh hne).trans hh.symm
  refine ⟨⟨⟨A0, c0, A1, c1, A2, c2, ?_, ?_, ?_, ?_⟩, hge⟩, ?_⟩
  · rw [List.length_take, List.length_take, Nat.min_eq_left hv, Nat.min_eq_left hk]; exact b2
  · rw [List.length_take, Nat.min_eq_left hv]; exact rowW hrow (by decide)
  · exact rowW (grownOther h0 hB h1 (by decide)) (by decide)
  · rw [List.length_take, Nat.min_eq_left hk]
    have h3 := ownsRow_take (rowW (grownOther h0 hB h2 (by decide)) (by decide)) hk
    have e : (M.flatMap mvals).take (k * 2) = (M.take k).flatMap mvals := by
      conv => lhs; rw [← List.take_append_drop k M, List.flatMap_append]
      exact List.take_left' (by rw [flat_len mvals mvals_len, List.length_take, Nat.min_eq_left hk])
    rw [e] at h3
    exact h3
  · rw [hW]
    have F1 : SF B w w1 := ⟨((Below.refl _ _).mono hbs).grown hB hbs fun k hk => (h0.lt k hk).1, fun k o hk hn => by
      refine (hB.block k (heap_lt hk) fun h => ?_).trans hk
      obtain ⟨cs', f', hh'⟩ := Go.Lib.ownsRow_kind h0 k h.symm
      rw [hk] at hh'
      injection hh' with hh'
      exact (hn _ _ _ hh').2.1 rfl⟩
    exact (F1.setBox b1 hge _ _).setBox (blk_set b1 0 _) hge _ _
theorem clear_own {w : World} {B v : Nat} {C : List CV} {g c0 : Nat} (h0 : w.ownsRow B 70 9 (.slice (some ⟨g, 0, none⟩) C.length c0) C.length (C.flatMap CV.vals)) (hv : v < C.length) :
    ∃ w1, (∀ ty c, (Builtin.clear_ #[58] ty #[.slice (some ⟨g, v * 9, none⟩) (C.length - v) c]).run Try.prog w = .ok (.tuple #[]) w1) ∧ w.grownBy w1 (some g) ∧ w1.ownsRow B 70 9 (.slice (some ⟨g, 0, none⟩) v c0) v ((C.take v).flatMap CV.vals) := by
  obtain ⟨item, hi, hz, hs, _⟩ := elCell.hi
  rcases h0.2 with ⟨h, _⟩ | ⟨g', cap, cur, hv', hg, hh, hnc, hcm, hcs, ht⟩
  · cases h
  · injection hv' with e1 _ e3
    injection e1 with e1
    injection e1 with e1
    subst e1; subst e3
    have hzl : ((List.replicate (C.length - v) CV.zero).flatMap CV.vals).length = (C.length - v) * 9 := by rw [flat_len CV.vals cvals_len, List.length_replicate]
    have hcn : C.length * 9 ≤ c0 * 9 := Nat.mul_le_mul_right _ hnc
    have hpre : cur.toList.take (v * 9) = (C.take v).flatMap CV.vals := by
      have h2 := congrArg (List.take (v * 9)) ht
      rw [List.take_take, Nat.min_eq_left (Nat.mul_le_mul_right _ (Nat.le_of_lt hv))] at h2
      rw [h2]
      conv => lhs; rw [← List.take_append_drop v C, List.flatMap_append]
      exact List.take_left' (by rw [flat_len CV.vals cvals_len, List.length_take, Nat.min_eq_left (Nat.le_of_lt hv)])
    refine ⟨_, fun ty c => run_clear_part w _ ty _ _ item elCell.ht hi hz g (v * 9) (C.length - v) c cur hh (by omega) (zeros_one _) (by rw [zeros_cells, hzl]; omega), ⟨rfl, rfl, rfl, by simp [World.setRow], fun k _ hk => setRow_other w g k _ (fun e => hk (by rw [e]))⟩, ?_⟩
    refine ⟨by rw [flat_len CV.vals cvals_len, List.length_take, Nat.min_eq_left (Nat.le_of_lt hv)], .inr ⟨g, c0, _, rfl, hg, setRow_heap w g cur _ _ _ hh, by omega, hcm, ?_, ?_⟩⟩
    · rw [zeros_cells]
      simp only [List.size_toArray, List.length_append, List.length_take, List.length_drop, Array.length_toList, hzl]
      omega
    · rw [← hpre, zeros_cells]
      show (cur.toList.take (v * 9) ++ _ ++ _).take (v * 9) = _
      rw [List.append_assoc]
      exact List.take_left' (by simp; omega)
end Go.Proofs.Ytgoedlbdnmhppaa
namespace Go.Proofs.Ytgoedlbdnmhppaa
open Go.RowKit

theorem clear_none (A : Option Addr) (c : Nat) (ty : TypeId) (W : World) : (Builtin.clear_ #[58] ty #[.slice A 0 c]).run Try.prog W = .ok (.tuple #[]) W := by
  obtain ⟨item, hi, hz, hs, _⟩ := elCell.hi
  cases A <;> simp [Builtin.clear_, run_underlying elCell.ht]
set_option maxRecDepth 100000 in
set_option maxHeartbeats 4000000 in
theorem sundo_any {w : World} {B sb v k : Nat} {C : List CV} {R1 R2 : List (CV × Nat)} {M : List (Nat × Nat)} (h : SM w B sb C (R1 ++ R2) M) (hi : ∀ e ∈ R2, e.2 < C.length) (hn : (R1 ++ R2).length ≤ 1000000) (hC : C.length ≤ 1000000) (hM : M.length ≤ 1000000)
    (hk : M[k]? = some (R1.length, v)) (hv : v ≤ C.length) :
    Calls Try.prog 18 #[.pointer (some ⟨sb, 0, none⟩), .int .i64 (k : Int)] w fun e w' => e = .returned (.int .i64 0) ∧ SM w' B sb ((backC C R2).take v) R1 (M.take (k + 1)) ∧ SF B w w' := by
  have hkl : k < M.length := by
    rcases Nat.lt_or_ge k M.length with h1 | h1
    · exact h1
    · rw [List.getElem?_eq_none h1] at hk; cases hk
  obtain ⟨A0, c0, A1, c1, A2, c2, hb, h0, h1, h2⟩ := h.ex
  obtain ⟨g2, rfl, hg2, ⟨cs2, hh2, hz2⟩, hc2, hel⟩ := own_elem mvals_len h2 hk rfl
  have d0 := hel 0 _ rfl
  have d1 := hel 1 _ rfl
  have b2 := cell_of_row w sb 2 _ _ _ hb
  have hl := heap_lt hb
  have hl2 := heap_lt hh2
  have hBs : B ≤ w.heap.size := by have := h.ge; omega
  have hneg : ¬ ((k : Int) < 0) := by omega
  have hge' : ¬ ((k : Int) ≥ (M.length : Int)) := by omega
  have BX := Lib.hid ((Below.refl w.heap.size w).alloc (Nat.le_refl _) (Obj.cells #[.int .i64 (R1.length : Int), .int .i64 (v : Int)] 64))
  have F0 := Lib.hid (SF.below hBs BX.out)
  have CB := Lib.hid (sback_any (h.below BX.out) hi hn hC)
  simp only [Nat.add_zero] at d0 d1
  clear hb h0 h1 h2 hel hh2
  go_enter Try.func18, Try.ntmps18
  go_wp2_with fail
  refine CB.out.mono ?_
  rintro e w1 ⟨rfl, hs, hf, hkm⟩
  have S1 := Lib.hid hs
  have F1 := Lib.hid hf
  have hbx := hkm w.heap.size _ _ (heap_alloc_new _ _)
  have m0 := cell_of_row w1 w.heap.size 0 _ _ _ hbx
  have m1 := cell_of_row w1 w.heap.size 1 _ _ _ hbx
  have ml := heap_lt hbx
  obtain ⟨D, hD⟩ : ∃ D, backC C R2 = D := ⟨_, rfl⟩
  have HD := Lib.hid hD
  have hvD : v ≤ D.length := by rw [← hD, backC_len]; exact hv
  have hDl : D.length ≤ 1000000 := by rw [← hD, backC_len]; exact hC
  rw [hD] at hs
  clear hf hkm d0 d1 b2 hD
  obtain ⟨A0, c0, A1, c1, A2, c2, hb, h0, h1, h2⟩ := hs.ex
  have b0 := cell_of_row w1 sb 0 _ _ _ hb
  have b2 := cell_of_row w1 sb 2 _ _ _ hb
  have hl1 := heap_lt hb
  have hBs1 : B ≤ w1.heap.size := by have := hs.ge; omega
  have zf : ∀ j, w1.frozen? ⟨sb, j, none⟩ = false := fun j => by simp [World.frozen?, hb]
  have ST := Lib.hid (fun (w2 W : World) => SM.struck (w1 := w2) (W := W) hb h0 h1 h2 hs.ge hvD (k := k + 1) hkl)
  rcases Nat.lt_or_ge v D.length with hlt | hge2
  · obtain ⟨g, rfl, hg, ⟨cs0, hh0, hz0⟩, hc0, _⟩ := own_elem cvals_len h0 (i := v) (List.getElem?_eq_getElem hlt) rfl
    obtain ⟨w2, hrun, hgr, hrow⟩ := clear_own (w := w1.drew) h0 hlt
    obtain ⟨n, hn⟩ : ∃ n, D.length = n := ⟨_, rfl⟩
    have hvn : v ≤ n := by omega
    have hb9 := keepBox (w1 := w1.drew) hb h0 (Below.refl _ _).drew hgr (by decide)
    have e0 := cell_of_row w2 sb 0 _ _ _ hb9
    have e2 := cell_of_row w2 sb 2 _ _ _ hb9
    have el := heap_lt hb9
    have ef : ∀ j, w2.frozen? ⟨sb, j, none⟩ = false := fun j => by simp [World.frozen?, hb9]
    have hbx2 := keepBox (w1 := w1.drew) hbx h0 (Below.refl _ _).drew hgr (by decide)
    have f0 := cell_of_row w2 w.heap.size 0 _ _ _ hbx2
    have f1 := cell_of_row w2 w.heap.size 1 _ _ _ hbx2
    have fl := heap_lt hbx2
    have FIN := Lib.hid (fun W => ST.out w2 W ⟨hgr.os, hgr.tape, hgr.output, hgr.size, hgr.block⟩ hrow)
    have hk1 : k + 1 ≤ c2 := by have := own_open h2; obtain ⟨_, _, e, hc, _⟩ := this; injection e with _ _ e; omega
    have hkl' : (k : Int) + 1 ≤ (M.length : Int) := by omega
    rw [hn] at hrun b0 e0
    have HN := Lib.hid hn
    have hrun2 := fun c => hrun 0 c
    have hlt' : (v : Int) < (n : Int) := by omega
    have hvc : v ≤ c0 := by omega
    clear hn hb h0 h1 h2 hh0 hs hb9 hbx hbx2 hgr hrow
    go_wp2_with fail
    go_region
    go_wp2_with fail
    go_region
    go_wp2_with fail
    go_ret
    rw [HD.out]
    have Z := FIN.out _ rfl
    exact ⟨rfl, Z.1.below (Below.refl _ _).drew, ((F0.out.trans F1.out).trans Z.2).trans (SF.below (Nat.le_trans hBs1 Z.2.low.size) (Below.refl _ _).drew)⟩
  · obtain rfl : v = D.length := by omega
    have hb9 := keepBox (w1 := w1) hb h0 (Below.refl _ _) ⟨rfl, rfl, rfl, Nat.le_refl _, fun _ _ _ => rfl⟩ (by decide)
    have FIN := Lib.hid (show ∀ (W : World) (n' : Nat), D.length = n' → W = (w1.setCell ⟨sb, 0, none⟩ (.slice A0 n' c0)).setCell ⟨sb, 2, none⟩ (.slice A2 (k + 1) c2) → SM W B sb (D.take D.length) R1 (M.take (k + 1)) ∧ SF B w1 W from fun W n' e hW => by
      subst e
      exact ST.out w1 W ⟨rfl, rfl, rfl, Nat.le_refl _, fun _ _ _ => rfl⟩ (by rw [List.take_length]; exact h0) hW)
    have hk1 : k + 1 ≤ c2 := by have := own_open h2; obtain ⟨_, _, e, hc, _⟩ := this; injection e with _ _ e; omega
    have hkl' : (k : Int) + 1 ≤ (M.length : Int) := by omega
    have hc0 : D.length ≤ c0 := by have := own_open h0; obtain ⟨_, _, e, hc, _⟩ := this; injection e with _ _ e; omega
    have hb2 := Lib.hid hb
    obtain ⟨n, hn⟩ : ∃ n, D.length = n := ⟨_, rfl⟩
    have HN := Lib.hid hn
    rw [hn] at b0 hc0 hvD hDl m1
    have hrun2 := fun A c => clear_none A c
    clear hn hb h0 h1 h2 hs hb9 hbx hge2
    by_cases hcc : c0 = n
    · subst hcc
      go_wp2_with fail
      go_region_with fail
      all_goals
        go_wp2_with fail
        go_region
        go_wp2_with fail
        go_ret
        rw [HD.out]
        have Z := FIN.out _ _ HN.out rfl
        have BZ := Lib.hid (fun (WZ : World) => (Below.refl WZ.heap.size WZ).drew.drew)
        exact ⟨rfl, Z.1.below (BZ.out _), ((F0.out.trans F1.out).trans Z.2).trans (SF.below (Nat.le_trans hBs1 Z.2.low.size) (BZ.out _))⟩
    · have hcl : n < c0 := by omega
      go_wp2_with fail
      go_region_with fail
      all_goals
        go_wp2_with fail
        go_region
        go_wp2_with fail
        go_ret
        rw [HD.out]
        have Z := FIN.out _ _ HN.out rfl
        have BZ := Lib.hid (fun (WZ : World) => (Below.refl WZ.heap.size WZ).drew.drew)
        exact ⟨rfl, Z.1.below (BZ.out _), ((F0.out.trans F1.out).trans Z.2).trans (SF.below (Nat.le_trans hBs1 Z.2.low.size) (BZ.out _))⟩
end Go.Proofs.Ytgoedlbdnmhppaa
namespace Go.Proofs.Ytgoedlbdnmhppaa
open Go.RowKit

section
variable {B : Nat} {wr w1 : World} {sb rb : Nat} {C : List CV} {R : List (CV × Nat)} {p : PV} {L : Bs} {As : List T} {Hs : List MK}
/-- What comes behind the program's call, and ahead of the reference's. -/
def Mid (B : Nat) (wr : World) (sb : Nat) (C : List CV) (R : List (CV × Nat)) (Ms : List (Nat × Nat)) (v : Value) (e : Ending) (w' : World) : Prop := e = .returned v ∧ SM w' B sb C R Ms ∧ SF B wr w'
/-- What comes behind both. -/
def Both (B : Nat) (wr : World) (sb rb : Nat) (C : List CV) (R : List (CV × Nat)) (L : Bs) (As : List T) (H' : PV → List MK) (v : Value) (e : Ending) (w' : World) : Prop := e = .returned v ∧ ∃ p', LS B w' sb rb C R p' L As (H' p') ∧ Below B wr w'
theorem pmark1 (F : LS B wr sb rb C R p L As Hs) (hM : Hs.length ≤ 1000000) (W : World) (hW : Below wr.heap.size wr W) :
    Calls Try.prog 10 #[.pointer (some ⟨sb, 0, none⟩)] W fun e w' => Mid B wr sb C R (Hs.map MK.m ++ [(R.length, C.length)]) (.int .i64 (Hs.length : Int)) e w' :=
  (smark_any (F.below hW).sm (by simpa using hM)).mono fun _ _ ⟨h1, h2, h3⟩ => ⟨by rw [h1]; simp, h2, (SF.below F.size.1 hW).trans h3⟩
theorem pmark2 (F : LS B wr sb rb C R p L As Hs) (hM : Hs.length ≤ 1000000) (h1 : SM w1 B sb C R (Hs.map MK.m ++ [(R.length, C.length)])) (f1 : SF B wr w1) (W : World) (hW : Below w1.heap.size w1 W) :
    Calls Try.prog 11 #[.pointer (some ⟨rb, 0, none⟩)] W fun e w' => Both B wr sb rb C R L As (fun _ => Hs ++ [⟨R.length, C.length, p, C, L, As⟩]) (.int .i64 (Hs.length : Int)) e w' := by
  have hs := h1.lenAt
  have f2 := f1.then F.size.1 hW
  refine (rmark9_any (F.rm.sf f2) (by simpa using hM)).mono fun _ _ ⟨g1, g2, g3⟩ => ⟨by rw [g1]; simp, p, F.mark (h1.below hW) f2 g2 g3, f2.low.trans g3.low⟩
theorem pfresh1 (F : LS B wr sb rb C R p L As Hs) (hC : C.length ≤ 1000000) (n : Int) (W : World) (hW : Below wr.heap.size wr W) :
    Calls Try.prog 12 #[.pointer (some ⟨sb, 0, none⟩), .int .i64 n] W fun e w' => Mid B wr sb (C ++ List.replicate (fresh n) CV.zero) R (Hs.map MK.m) (.int .i64 (C.length : Int)) e w' :=
  (sfresh_any (F.below hW).sm hC n).mono fun _ _ ⟨h1, h2, h3⟩ => ⟨h1, h2, (SF.below F.size.1 hW).trans h3⟩
theorem pfresh2 (F : LS B wr sb rb C R p L As Hs) (hC : C.length ≤ 1000000) (n : Int) (h1 : SM w1 B sb (C ++ List.replicate (fresh n) CV.zero) R (Hs.map MK.m)) (f1 : SF B wr w1) (W : World) (hW : Below w1.heap.size w1 W) :
    Calls Try.prog 13 #[.pointer (some ⟨rb, 0, none⟩), .int .i64 n] W fun e w' => Both B wr sb rb (C ++ List.replicate (fresh n) CV.zero) R L (As ++ List.replicate (fresh n) noneT) (fun _ => Hs) (.int .i64 (C.length : Int)) e w' := by
  have f2 := f1.then F.size.1 hW
  have hl := F.len.1
  refine (rfresh9_any (F.rm.sf f2) (F.pa.sf f2) (by omega) n).mono fun _ _ ⟨g1, p', g2, g3, g4⟩ => ⟨by rw [g1, hl], p', F.fresh _ (h1.below hW) f2 g2 g3 g4, f2.low.trans g4.low⟩
theorem pvars (F : LS B wr sb rb C R p L As Hs) (W : World) (hW : Below wr.heap.size wr W) :
    Calls Try.prog 14 #[.pointer (some ⟨sb, 0, none⟩)] W fun e w' => e = .returned (.int .i64 (C.length : Int)) ∧ w' = W := svars_any (F.below hW).sm
/-- The number of variables in the reference's box. -/
theorem LS.boxN (F : LS B wr sb rb C R p L As Hs) : wr.cell? ⟨rb, 0, none⟩ = some (.int .i64 (C.length : Int)) ∧ rb < wr.heap.size := by
  obtain ⟨_, _, h0, _, _, _, _, hl, _, _⟩ := F.rm.box
  rw [F.len.2] at h0
  exact ⟨h0, hl⟩
theorem pundo1 (F : LS B wr sb rb C R p L As Hs) (hR : R.length ≤ 1000000) (hC : C.length ≤ 1000000) (hM : Hs.length ≤ 1000000) {k : Nat} {g : MK} (hk : Hs[k]? = some g) (W : World) (hW : Below wr.heap.size wr W) :
    Calls Try.prog 18 #[.pointer (some ⟨sb, 0, none⟩), .int .i64 (k : Int)] W fun e w' => Mid B wr sb ((backC C (R.drop g.r)).take g.v) (R.take g.r) ((Hs.map MK.m).take (k + 1)) (.int .i64 0) e w' := by
  have hp := F.hp k g hk
  have hrl : (R.take g.r).length = g.r := by rw [List.length_take, Nat.min_eq_left hp.r]
  refine (sundo_any (R1 := R.take g.r) (R2 := R.drop g.r) (v := g.v) (k := k) (by rw [List.take_append_drop]; exact (F.below hW).sm) (fun e he => F.tr e (List.mem_of_mem_drop he)) (by rw [List.take_append_drop]; exact hR) hC (by simpa using hM) (by rw [hrl, List.getElem?_map, hk]; rfl) hp.v).mono fun _ _ ⟨h1, h2, h3⟩ => ⟨h1, h2, (SF.below F.size.1 hW).trans h3⟩
theorem pundo2 (F : LS B wr sb rb C R p L As Hs) (hM : Hs.length ≤ 1000000) {k : Nat} {g : MK} (hk : Hs[k]? = some g) (h1 : SM w1 B sb ((backC C (R.drop g.r)).take g.v) (R.take g.r) ((Hs.map MK.m).take (k + 1))) (f1 : SF B wr w1) (W : World) (hW : Below w1.heap.size w1 W) :
    Calls Try.prog 19 #[.pointer (some ⟨rb, 0, none⟩), .int .i64 (k : Int)] W fun e w' => Both B wr sb rb g.C (R.take g.r) g.L g.A (fun _ => Hs.take (k + 1)) (.int .i64 0) e w' := by
  have f2 := f1.then F.size.1 hW
  refine (rundo9_in (q := g.q) (F.rm.sf f2) (by simpa using hM) (by rw [List.getElem?_map, hk]; rfl)).mono fun _ _ ⟨g1, g2, g3⟩ => ⟨g1, g.q, F.undo hk (h1.below hW) f2 g2 g3, f2.low.trans g3.low⟩
/-- The program's Undo alone. -/
theorem LS.undoP (F : LS B wr sb rb C R p L As Hs) {k : Nat} {g : MK} (hk : Hs[k]? = some g) (h1 : SM w1 B sb ((backC C (R.drop g.r)).take g.v) (R.take g.r) ((Hs.map MK.m).take (k + 1))) (f1 : SF B wr w1) : SM w1 B sb g.C (R.take g.r) ((Hs.take (k + 1)).map MK.m) ∧ Hw w1 g := by
  have hg := F.hp k g hk
  rw [backC_take, hg.back] at h1
  exact ⟨by rw [List.map_take]; exact h1, (F.hw k g hk).sf f1⟩
end
end Go.Proofs.Ytgoedlbdnmhppaa
namespace Go.Proofs.Ytgoedlbdnmhppaa
open Go.RowKit

def vV (n : Int) : Value := .agg #[.int .i64 1, .int .i64 n, .string ⟨#[]⟩, .slice none 0 0]
def iV (n : Int) : Value := .agg #[.int .i64 2, .int .i64 n, .string ⟨#[]⟩, .slice none 0 0]
theorem lvar9_any (n : Int) (w : World) : Calls Try.prog 16 #[.int .i64 n] w fun e w' => e = .returned (.agg #[.int .i64 1, .int .i64 n, .string ⟨#[]⟩, .slice none 0 0]) ∧ Below w.heap.size w w' := by
  go_enter Try.func16, Try.ntmps16
  go_wp2_with fail
  exact bodyPost_ret (v := .agg #[.int .i64 1, .int .i64 n, .string ⟨#[]⟩, .slice none 0 0]) (by simp [results, go_sem]) rfl ⟨rfl, (Below.refl _ _).alloc (Nat.le_refl _) _⟩
set_option maxRecDepth 100000 in
set_option maxHeartbeats 4000000 in
theorem sknown_var {B sb : Nat} {C : List CV} {R : List (CV × Nat)} {M : List (Nat × Nat)} {w : World} (h : SM w B sb C R M) (n : Int) :
    Calls Try.prog 26 #[.pointer (some ⟨sb, 0, none⟩), .agg #[.int .i64 1, .int .i64 n, .string ⟨#[]⟩, .slice none 0 0]] w fun e w' => e = .returned (.bool (decide (n < (C.length : Int)))) ∧ Below w.heap.size w w' := by
  obtain ⟨A0, c0, b0, hl⟩ := h.lenAt
  clear h
  go_enter Try.func26, Try.ntmps26
  go_wp2_with fail
  go_quiet (fail)
  go_wp2_with fail
  go_ret
  exact ⟨rfl, bel_drewN (belS (Below.refl _ _) _) _⟩
theorem sknown_int {B sb : Nat} {C : List CV} {R : List (CV × Nat)} {M : List (Nat × Nat)} {w : World} (h : SM w B sb C R M) (n : Int) (hn : I64 n) :
    Calls Try.prog 26 #[.pointer (some ⟨sb, 0, none⟩), .agg #[.int .i64 2, .int .i64 n, .string ⟨#[]⟩, .slice none 0 0]] w fun e w' => e = .returned (.bool true) ∧ Below w.heap.size w w' := by
  have hok : (T.mk 2 n ⟨#[]⟩ 0 fun _ => .nil).ok := ⟨⟨.inr (.inl ⟨rfl, hn, rfl, rfl⟩), fun i hi => absurd hi (by omega)⟩, by simp [T.nodes, sumTo]⟩
  refine (sknown_any _ hok w _ (fun _ => True) h (TP.leaf0 _ _ _ _ _ _)).mono ?_
  rintro e w' ⟨⟨b, rfl, hb⟩, h1⟩
  obtain rfl := hb.mpr (fun u hu => by rcases hu with ⟨h, _⟩ | ⟨h, _⟩ <;> exact absurd h (by decide))
  exact ⟨rfl, h1⟩
set_option maxRecDepth 100000 in
set_option maxHeartbeats 8000000 in
theorem sunify_var1 {w : World} {B sb : Nat} {C : List CV} {R : List (CV × Nat)} {M : List (Nat × Nat)} (h : SM w B sb C R M) {n : Int} (hn : (C.length : Int) ≤ n) :
    Calls Try.prog 15 #[.pointer (some ⟨sb, 0, none⟩), .agg #[.int .i64 1, .int .i64 n, .string ⟨#[]⟩, .slice none 0 0], .agg #[.int .i64 2, .int .i64 1, .string ⟨#[]⟩, .slice none 0 0]] w fun e w' => e = .returned (.tuple #[.slice none 0 0, .int .i64 1]) ∧ Below w.heap.size w w' := by
  have B2 := Lib.hid (belS (belS (Below.refl w.heap.size w) (Obj.cells #[.int .i64 1, .int .i64 n, .string ⟨#[]⟩, .slice none 0 0] 40)) (Obj.cells #[.int .i64 2, .int .i64 1, .string ⟨#[]⟩, .slice none 0 0] 40))
  have CA := Lib.hid (sknown_var (h.below B2.out) n)
  have hnl : ¬ (n < (C.length : Int)) := by omega
  clear h
  go_enter Try.func15, Try.ntmps15
  go_wp2_with fail
  refine CA.out.mono ?_
  rintro e w5 ⟨rfl, h5⟩
  have H5 := Lib.hid (B2.out.trans (h5.mono B2.out.size))
  have hd : decide (n < (C.length : Int)) = false := decide_eq_false (by omega)
  clear h5 CA
  go_wp2_with fail
  go_ret2
  exact ⟨rfl, H5.out⟩
set_option maxRecDepth 100000 in
set_option maxHeartbeats 8000000 in
theorem sunify_var2 {w : World} {B sb : Nat} {C : List CV} {R : List (CV × Nat)} {M : List (Nat × Nat)} (h : SM w B sb C R M) {n : Int} (hn : (C.length : Int) ≤ n) :
    Calls Try.prog 15 #[.pointer (some ⟨sb, 0, none⟩), .agg #[.int .i64 2, .int .i64 1, .string ⟨#[]⟩, .slice none 0 0], .agg #[.int .i64 1, .int .i64 n, .string ⟨#[]⟩, .slice none 0 0]] w fun e w' => e = .returned (.tuple #[.slice none 0 0, .int .i64 1]) ∧ Below w.heap.size w w' := by
  have B2 := Lib.hid (belS (belS (Below.refl w.heap.size w) (Obj.cells #[.int .i64 2, .int .i64 1, .string ⟨#[]⟩, .slice none 0 0] 40)) (Obj.cells #[.int .i64 1, .int .i64 n, .string ⟨#[]⟩, .slice none 0 0] 40))
  have CA := Lib.hid (sknown_int (h.below B2.out) 1 ⟨by omega, by omega⟩)
  have CB := Lib.hid (fun (W : World) (hW : Below w.heap.size w W) => sknown_var (h.below hW) n)
  have Y0 := Lib.hid (show ((w.alloc (Obj.cells #[.int .i64 2, .int .i64 1, .string ⟨#[]⟩, .slice none 0 0] 40)).alloc (Obj.cells #[.int .i64 1, .int .i64 n, .string ⟨#[]⟩, .slice none 0 0] 40)).heap[w.heap.size + 1]? = some (.cells #[.int .i64 1, .int .i64 n, .string ⟨#[]⟩, .slice none 0 0] 40 (0, 0)) from
    (congrArg _ (by simp)).trans (heap_alloc_new _ _))
  have hnl : ¬ (n < (C.length : Int)) := by omega
  clear h
  go_enter Try.func15, Try.ntmps15
  go_wp2_with fail
  refine CA.out.mono ?_
  rintro e w5 ⟨rfl, h5⟩
  have H5 := Lib.hid (B2.out.trans (h5.mono B2.out.size))
  have hy := (h5.block _ (heap_lt Y0.out)).trans Y0.out
  obtain ⟨y0, y1, y2, y3⟩ := box4 hy
  have hyl := heap_lt hy
  clear h5 CA hy
  go_wp2_with fail
  refine (CB.out _ H5.out).mono ?_
  rintro e w6 ⟨rfl, h6⟩
  have H6 := Lib.hid (H5.out.trans (h6.mono H5.out.size))
  have hd : decide (n < (C.length : Int)) = false := decide_eq_false (by omega)
  clear h6 CB
  go_wp2_with fail
  go_ret2
  exact ⟨rfl, H6.out⟩
set_option maxRecDepth 100000 in
set_option maxHeartbeats 8000000 in
theorem swalk_var {w : World} {B sb : Nat} {C : List CV} {R : List (CV × Nat)} {M : List (Nat × Nat)} (h : SM w B sb C R M) {i : Nat} {c : CV} (hc : C[i]? = some c) (hb : c.b = false) :
    Calls Try.prog 29 #[.pointer (some ⟨sb, 0, none⟩), .agg #[.int .i64 1, .int .i64 (i : Int), .string ⟨#[]⟩, .slice none 0 0]] w fun e w' => e = .returned (.agg #[.int .i64 1, .int .i64 (i : Int), .string ⟨#[]⟩, .slice none 0 0]) ∧ Below w.heap.size w w' := by
  have hin := lt_of_at hc
  have HS := Lib.hid h
  obtain ⟨q, ⟨tk, tn, ts, tA, tm, tc⟩, ⟨ak, an, as_, aA, am, ac⟩⟩ := c
  obtain rfl : q = false := hb
  have HC := Lib.hid hc
  have hls := h.lenAt
  obtain ⟨_, _, _, hls⟩ := hls
  clear h hc
  go_enter Try.func29, Try.ntmps29
  go_wp2_with fail
  go_loopw [28] (fun _ wr => wr.heap[w.heap.size]? = some (.cells #[.int .i64 1, .int .i64 (i : Int), .string ⟨#[]⟩, .slice none 0 0] 40 (0, 0)) ∧ wr.heap[w.heap.size + 1]? = some (.cells #[.int .i64 0, .int .i64 0, .string ⟨#[]⟩, .slice none 0 0] 40 (0, 0)) ∧ Below w.heap.size w wr) (fun _ _ => 0)
  case atStart =>
    exact ⟨(Below.heap_alloc _ _ _ (by simp)).trans (heap_alloc_new _ _), (congrArg _ (by simp)).trans (heap_alloc_new _ _), belS (belS (Below.refl _ _) _) _⟩
  case round =>
    obtain ⟨hx, hy, hb⟩ := hrel
    have HY := Lib.hid hy
    have HB := Lib.hid hb
    obtain ⟨g0, c0, cs, b0, hl, hh0, hcc, hel⟩ := (HS.out.below hb).cellAt HC.out
    have o0 := hel 0 _ rfl
    simp only [Nat.add_zero] at o0
    have hl0 := heap_lt hh0
    have hini : (i : Int) < (C.length : Int) := by omega
    obtain ⟨x0, x1, x2, x3⟩ := box4 hx
    obtain ⟨y0, y1, y2, y3⟩ := box4 hy
    have yf := unfrozen hy
    have hgl := heap_lt hx
    have hgl1 := heap_lt hy
    have P1 := Lib.hid (fun nq => put_new0 (w := w) (wr := wr.drewN nq) HY.out (Nat.le_succ _) (bel_drewN HB.out nq) (.int .i64 1) (.int .i64 (i : Int)) (.string ⟨#[]⟩) (.slice none 0 0))
    clear hel hh0 hx hy hb
    go_wp2_with fail
    go_quiet (fail)
    go_wp2_with fail
    obtain ⟨p0, p1, p2, p3⟩ := box4 (P1.out nq).1
    refine bodyPost_ret (v := .agg #[.int .i64 1, .int .i64 (i : Int), .string ⟨#[]⟩, .slice none 0 0]) (by simp [results, go_sem, p0, p1, p2, p3]) rfl ?_
    exact ⟨rfl, (P1.out nq).2.2⟩
set_option maxRecDepth 100000 in
set_option maxHeartbeats 8000000 in
theorem sres_var {w : World} {B sb : Nat} {C : List CV} {R : List (CV × Nat)} {M : List (Nat × Nat)} (h : SM w B sb C R M) {i : Nat} {c : CV} (hc : C[i]? = some c) (hb : c.b = false) :
    Calls Try.prog 17 #[.pointer (some ⟨sb, 0, none⟩), .agg #[.int .i64 1, .int .i64 (i : Int), .string ⟨#[]⟩, .slice none 0 0]] w fun e w' => e = .returned (.agg #[.int .i64 1, .int .i64 (i : Int), .string ⟨#[]⟩, .slice none 0 0]) ∧ Below w.heap.size w w' := by
  have B2 := Lib.hid (belS (belS (Below.refl w.heap.size w) (Obj.cells #[.int .i64 1, .int .i64 (i : Int), .string ⟨#[]⟩, .slice none 0 0] 40)) (Obj.cells #[.int .i64 0, .int .i64 0, .string ⟨#[]⟩, .slice none 0 0] 40))
  have CA := Lib.hid (swalk_var (h.below B2.out) hc hb)
  have X0 := Lib.hid (show ((w.alloc (Obj.cells #[.int .i64 1, .int .i64 (i : Int), .string ⟨#[]⟩, .slice none 0 0] 40)).alloc (Obj.cells #[.int .i64 0, .int .i64 0, .string ⟨#[]⟩, .slice none 0 0] 40)).heap[w.heap.size]? = some (.cells #[.int .i64 1, .int .i64 (i : Int), .string ⟨#[]⟩, .slice none 0 0] 40 (0, 0)) from
    (Below.heap_alloc _ _ _ (by simp)).trans (heap_alloc_new _ _))
  have Y0 := Lib.hid (show ((w.alloc (Obj.cells #[.int .i64 1, .int .i64 (i : Int), .string ⟨#[]⟩, .slice none 0 0] 40)).alloc (Obj.cells #[.int .i64 0, .int .i64 0, .string ⟨#[]⟩, .slice none 0 0] 40)).heap[w.heap.size + 1]? = some (.cells #[.int .i64 0, .int .i64 0, .string ⟨#[]⟩, .slice none 0 0] 40 (0, 0)) from
    (congrArg _ (by simp)).trans (heap_alloc_new _ _))
  clear h hc hb
  go_enter Try.func17, Try.ntmps17
  go_wp2_with fail
  refine CA.out.mono ?_
  rintro e w1 ⟨rfl, h1⟩
  have hx := (h1.block _ (heap_lt X0.out)).trans X0.out
  have hy := (h1.block _ (heap_lt Y0.out)).trans Y0.out
  have H1 := Lib.hid (B2.out.trans (h1.mono B2.out.size))
  obtain ⟨x0, x1, x2, x3⟩ := box4 hx
  obtain ⟨y0, y1, y2, y3⟩ := box4 hy
  have xf := unfrozen hx
  have yf := unfrozen hy
  have hxl := heap_lt hx
  have hyl := heap_lt hy
  have P := Lib.hid (put_new0 hx (Nat.le_refl _) H1.out (.int .i64 1) (.int .i64 (i : Int)) (.string ⟨#[]⟩) (.slice none 0 0))
  have Q := Lib.hid (put_new0 ((P.out.2.1 _ (by omega)).trans hy) (Nat.le_succ _) P.out.2.2 (.int .i64 1) (.int .i64 (i : Int)) (.string ⟨#[]⟩) (.slice none 0 0))
  clear h1 CA hx hy
  go_wp2_with fail
  obtain ⟨p0, p1, p2, p3⟩ := box4 Q.out.1
  refine bodyPost_ret (v := .agg #[.int .i64 1, .int .i64 (i : Int), .string ⟨#[]⟩, .slice none 0 0]) (by simp [results, go_sem, p0, p1, p2, p3]) rfl ?_
  exact ⟨rfl, Q.out.2.2⟩
end Go.Proofs.Ytgoedlbdnmhppaa
