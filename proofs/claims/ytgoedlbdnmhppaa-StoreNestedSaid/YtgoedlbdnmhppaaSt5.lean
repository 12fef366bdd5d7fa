/- The program's store: change; Attr; Set. -/
import Derived.Test.YtgoedlbdnmhppaaSt2
import Derived.Deep.DeepCutAuto
namespace Go.Proofs.Ytgoedlbdnmhppaa
open Go.RowKit

/-- The box written at its second cell, behind an append onto the trail. -/
theorem SM.trailed {w w1 w2 W : World} {B sb : Nat} {C : List CV} {R : List (CV × Nat)} {M : List (Nat × Nat)} {A0 A1 A2 : Option Addr} {c0 c1 c2 g cap : Nat} {x : CV × Nat}
    (hb : w.heap[sb]? = some (.cells #[.slice A0 C.length c0, .slice A1 R.length c1, .slice A2 M.length c2] 62 (0, 0)))
    (h0 : w.ownsRow B 70 9 (.slice A0 C.length c0) C.length (C.flatMap CV.vals)) (h1 : w.ownsRow B 72 10 (.slice A1 R.length c1) R.length (R.flatMap evals)) (h2 : w.ownsRow B 64 2 (.slice A2 M.length c2) M.length (M.flatMap mvals))
    (hge : B ≤ sb) (hB : Below w.heap.size w w1) (hown : w2.ownsRow B 72 10 (.slice (some ⟨g, 0, none⟩) (R.length + 1) cap) (R.length + 1) (R.flatMap evals ++ evals x)) (hg : w1.grownBy w2 (Value.slice A1 R.length c1).ownBlock)
    (hW : W = w2.setCell ⟨sb, 1, none⟩ (.slice (some ⟨g, 0, none⟩) (R.length + 1) cap)) : SM W B sb C (R ++ [x]) M ∧ SF B w W ∧ (∀ (k : Nat) (cs : Array Value) (ty : TypeId) (f : Nat × Nat), w1.heap[k]? = some (.cells cs ty f) → ty ≠ 62 → ty ≠ 72 → W.heap[k]? = some (.cells cs ty f)) := by
  have hbs : B ≤ w.heap.size := by have := heap_lt hb; omega
  have b2 := keepBox hb h1 hB hg (by decide)
  have keepW : ∀ (k : Nat) (cs : Array Value) (ty : TypeId) (f : Nat × Nat), w2.heap[k]? = some (.cells cs ty f) → ty ≠ 62 → W.heap[k]? = some (.cells cs ty f) := fun k cs ty f hk hne => by
    rw [hW]
    refine (Below.heap_setCell _ _ _ k ?_).trans hk
    rintro rfl
    rw [show w2.heap[_]? = _ from b2] at hk
    injection hk with hk
    injection hk with _ hk
    exact hne hk.symm
  refine ⟨⟨⟨A0, c0, some ⟨g, 0, none⟩, cap, A2, c2, ?_, ?_, ?_, ?_⟩, hge⟩, ⟨?_, ?_⟩, ?_⟩
  · rw [hW, List.length_append]; simpa using blk_set b2 1 (.slice (some ⟨g, 0, none⟩) (R.length + 1) cap)
  · refine own_keep (grownOther (own_below h1 hB) hg (own_below h0 hB) (by decide)) fun k hk => ?_
    obtain ⟨cs, f, hh⟩ := Go.Lib.ownsRow_kind (grownOther (own_below h1 hB) hg (own_below h0 hB) (by decide)) k hk
    exact (keepW _ _ _ _ hh (by decide)).trans hh.symm
  · rw [flat_snoc, List.length_append]
    refine own_keep hown fun k hk => ?_
    obtain ⟨cs, f, hh⟩ := Go.Lib.ownsRow_kind hown k hk
    exact (keepW _ _ _ _ hh (by decide)).trans hh.symm
  · refine own_keep (grownOther (own_below h1 hB) hg (own_below h2 hB) (by decide)) fun k hk => ?_
    obtain ⟨cs, f, hh⟩ := Go.Lib.ownsRow_kind (grownOther (own_below h1 hB) hg (own_below h2 hB) (by decide)) k hk
    exact (keepW _ _ _ _ hh (by decide)).trans hh.symm
  · rw [hW]
    exact ((hB.mono hbs).grown hg (by have := hB.size; omega) fun k hk => (h1.lt k hk).1).setCell (p := ⟨sb, 1, none⟩) hge _
  · intro k o hk hn
    have hk1 := (hB.block k (heap_lt hk)).trans hk
    have hk2 : w2.heap[k]? = some o := by
      refine (hg.block k (heap_lt hk1) fun h => ?_).trans hk1
      obtain ⟨cs', f', hh'⟩ := Go.Lib.ownsRow_kind (own_below h1 hB) k h.symm
      rw [hk1] at hh'
      injection hh' with hh'
      exact (hn _ _ _ hh').2.2.1 rfl
    rw [hW]
    refine (Below.heap_setCell _ _ _ k ?_).trans hk2
    rintro rfl
    rw [show w2.heap[_]? = _ from b2] at hk2
    injection hk2 with hk2
    exact (hn _ _ _ hk2.symm).1 rfl
  · intro k cs ty f hk hn1 hn2
    refine keepW _ _ _ _ ((hg.block k (heap_lt hk) fun h => ?_).trans hk) hn1
    obtain ⟨cs', f', hh'⟩ := Go.Lib.ownsRow_kind (own_below h1 hB) k h.symm
    rw [hk] at hh'
    injection hh' with hh'
    injection hh' with _ hh'
    exact hn2 hh'
/-- One cell written. -/
theorem SM.put {w W : World} {B sb n : Nat} {C : List CV} {R : List (CV × Nat)} {M : List (Nat × Nat)} {A1 A2 : Option Addr} {c0 c1 c2 g : Nat} {x : CV}
    (hb : w.heap[sb]? = some (.cells #[.slice (some ⟨g, 0, none⟩) C.length c0, .slice A1 R.length c1, .slice A2 M.length c2] 62 (0, 0)))
    (h0 : w.ownsRow B 70 9 (.slice (some ⟨g, 0, none⟩) C.length c0) C.length (C.flatMap CV.vals)) (h1 : w.ownsRow B 72 10 (.slice A1 R.length c1) R.length (R.flatMap evals)) (h2 : w.ownsRow B 64 2 (.slice A2 M.length c2) M.length (M.flatMap mvals))
    (hge : B ≤ sb) (hn : n < C.length) (hW : W = w.setCells g (n * 9) x.vals) : SM W B sb (C.set n x) R M ∧ SF B w W := by
  have hbs : B ≤ w.heap.size := by have := heap_lt hb; omega
  obtain ⟨_, _, hg0⟩ : ∃ cs f, w.heap[g]? = some (.cells cs 70 f) := Go.Lib.ownsRow_kind h0 g rfl
  have keepW : ∀ (k : Nat) (cs : Array Value) (ty : TypeId) (f : Nat × Nat), w.heap[k]? = some (.cells cs ty f) → ty ≠ 70 → W.heap[k]? = some (.cells cs ty f) := fun k cs ty f hk hne => by
    rw [hW]
    refine (setCells_other ?_ _ _ _).trans hk
    rintro rfl
    rw [hg0] at hk
    injection hk with hk
    injection hk with _ hk
    exact hne hk.symm
  have rowW : ∀ {t : TypeId} {s n : Nat} {v : Value} {xs : List Value}, w.ownsRow B t s v n xs → t ≠ 70 → W.ownsRow B t s v n xs := fun h hne => by
    refine own_keep h fun k hk => ?_
    obtain ⟨cs, f, hh⟩ := Go.Lib.ownsRow_kind h k hk
    exact (keepW _ _ _ _ hh hne).trans hh.symm
  refine ⟨⟨⟨some ⟨g, 0, none⟩, c0, A1, c1, A2, c2, ?_, ?_, rowW h1 (by decide), rowW h2 (by decide)⟩, hge⟩, ?_⟩
  · rw [List.length_set]; exact keepW _ _ _ _ hb (by decide)
  · rw [List.length_set, hW, flat_set CV.vals cvals_len C n x hn]
    exact setCells_own h0 x.vals (by rw [cvals_len]; have : (n + 1) * 9 ≤ C.length * 9 := Nat.mul_le_mul_right _ hn; omega)
  · rw [hW]
    exact SF.setCells (SF.refl _ _) hg0 (h0.lt g rfl).1 _ _
theorem unfrozen {w : World} {g : Nat} {cs : Array Value} {t : TypeId} (h : w.heap[g]? = some (.cells cs t (0, 0))) : ∀ j, w.frozen? ⟨g, j, none⟩ = false := fun j => by simp [World.frozen?, h]
def CV.val (c : CV) : Value := .agg c.vals.toArray
def TV.val (t : TV) : Value := .agg t.vals.toArray
set_option maxRecDepth 100000 in
set_option maxHeartbeats 4000000 in
theorem schange_any {w : World} {B sb : Nat} {C : List CV} {R : List (CV × Nat)} {M : List (Nat × Nat)} (h : SM w B sb C R M) (hn : R.length ≤ 1000000) {n : Nat} {old : CV} (ho : C[n]? = some old) (c : CV) :
    Calls Try.prog 30 #[.pointer (some ⟨sb, 0, none⟩), .int .i64 (n : Int), c.val] w fun e w' => e = .returned (.tuple #[]) ∧ SM w' B sb (C.set n c) (R ++ [(old, n)]) M ∧ SF B w w' := by
  have hnl : n < C.length := by
    rcases Nat.lt_or_ge n C.length with h1 | h1
    · exact h1
    · rw [List.getElem?_eq_none h1] at ho; cases ho
  obtain ⟨q, ⟨tk, tn, ts, tA, tm, tc⟩, ⟨ak, an, as_, aA, am, ac⟩⟩ := c
  obtain ⟨ob, ⟨ok, on, os, oA, om, oc⟩, ⟨pk, pn, ps, pA, pm, pc⟩⟩ := old
  have hBw : B ≤ w.heap.size := by obtain ⟨A0, c0, A1, c1, A2, c2, hb, _⟩ := h.ex; have := heap_lt hb; have := h.ge; omega
  obtain ⟨W, hW⟩ : ∃ W, W = w.alloc (Obj.cells #[.bool q, .int .i64 tk, .int .i64 tn, .string ts, .slice tA tm tc, .int .i64 ak, .int .i64 an, .string as_, .slice aA am ac] 70) := ⟨_, rfl⟩
  have XB : W.heap[w.heap.size]? = some (.cells #[.bool q, .int .i64 tk, .int .i64 tn, .string ts, .slice tA tm tc, .int .i64 ak, .int .i64 an, .string as_, .slice aA am ac] 70 (0, 0)) := by rw [hW]; exact heap_alloc_new _ _
  have BW : Below w.heap.size w W := by rw [hW]; exact (Below.refl _ _).alloc (Nat.le_refl _) _
  have FW := Lib.hid (SF.below hBw BW)
  have hge := h.ge
  have h' := h.below BW
  obtain ⟨A0, c0, A1, c1, A2, c2, hb, h0, h1, h2⟩ := h'.ex
  obtain ⟨g0, rfl, hg0, ⟨cs0, hh0, hz0⟩, hc0, hel⟩ := own_elem cvals_len h0 (i := n) ho rfl
  have b0 := cell_of_row W sb 0 _ _ _ hb
  have b1 := cell_of_row W sb 1 _ _ _ hb
  have hl := heap_lt hb
  have hl0 := heap_lt hh0
  have HB := Lib.hid hb
  have HGE := Lib.hid hge
  have H0 := Lib.hid h0
  have H1 := Lib.hid h1
  have H2 := Lib.hid h2
  have HXB := Lib.hid XB
  have HO := Lib.hid ho
  obtain ⟨item, ii1, ii2, ii3, ii4⟩ := elEntry.hi
  have o0 := hel 0 _ rfl
  have o1 := hel 1 _ rfl
  have o2 := hel 2 _ rfl
  have o3 := hel 3 _ rfl
  have o4 := hel 4 _ rfl
  have o5 := hel 5 _ rfl
  have o6 := hel 6 _ rfl
  have o7 := hel 7 _ rfl
  have o8 := hel 8 _ rfl
  simp only [Nat.add_zero] at o0
  have hni : (n : Int) < (C.length : Int) := by omega
  have hBW : B ≤ W.heap.size := by have := BW.size; omega
  show Calls Try.prog 30 #[.pointer (some ⟨sb, 0, none⟩), .int .i64 (n : Int), .agg #[.bool q, .int .i64 tk, .int .i64 tn, .string ts, .slice tA tm tc, .int .i64 ak, .int .i64 an, .string as_, .slice aA am ac]] w _
  clear hb h h' h0 h1 h2 hel hh0 ho XB BW hge
  go_enter Try.func30, Try.ntmps30
  go_upto_region 1 with fail
  rw [← hW]
  clear hW
  go_upto_region 2 with fail
  go_cut [] (fun wx => SM wx B sb C (R ++ [(⟨ob, ⟨ok, on, os, oA, om, oc⟩, ⟨pk, pn, ps, pA, pm, pc⟩⟩, n)]) M ∧ SF B W wx ∧ wx.heap[w.heap.size]? = some (.cells #[.bool q, .int .i64 tk, .int .i64 tn, .string ts, .slice tA tm tc, .int .i64 ak, .int .i64 an, .string as_, .slice aA am ac] 70 (0, 0)))
  case first =>
    go_wp2_with fail
    go_region_law (refine step_append_lies _ rfl _ _ _ rfl B 72 item (.agg #[.bool false, .int .i64 0, .int .i64 0, .string ⟨#[]⟩, .slice none 0 0, .int .i64 0, .int .i64 0, .string ⟨#[]⟩, .slice none 0 0, .int .i64 0]) 10 128 Try.underlying59 ii1 ii2 ii3 ii4 rfl (by omega) _ R.length _ rfl (own_below H1.out (by first | exact ((Below.refl _ _).drew).alloc (Nat.le_refl _) _ | exact ((Below.refl _ _).alloc (Nat.le_refl _) _).drew | exact (Below.refl _ _).alloc (Nat.le_refl _) _)) ⟨W.heap.size, 0, none⟩ 1 1 [.bool ob, .int .i64 ok, .int .i64 on, .string os, .slice oA om oc, .int .i64 pk, .int .i64 pn, .string ps, .slice pA pm pc, .int .i64 (n : Int)] rfl rfl (World.news_of_block (heap_alloc_new _ _)) (by intro u hu; simp only [List.mem_cons, List.not_mem_nil, or_false] at hu; rcases hu with rfl | rfl | rfl | rfl | rfl | rfl | rfl | rfl | rfl | rfl <;> rfl) (by omega) (by unfold maxLen; omega) (by omega) (by simp; omega) _ rfl ?_; intro g1 cap1 w10 hown1 hg1 hat1 hlt1; have Z10 := keepBox HB.out H1.out (by first | exact ((Below.refl _ _).drew).alloc (Nat.le_refl _) _ | exact ((Below.refl _ _).alloc (Nat.le_refl _) _).drew | exact (Below.refl _ _).alloc (Nat.le_refl _) _) hg1 (by decide); have z1 := cell_of_row w10 sb 1 _ _ _ Z10; have zl := heap_lt Z10; have zf : w10.frozen? ⟨sb, 1, none⟩ = false := (by simp [World.frozen?, Z10]))
    all_goals
      have S := Lib.hid (SM.trailed (x := (⟨ob, ⟨ok, on, os, oA, om, oc⟩, ⟨pk, pn, ps, pA, pm, pc⟩⟩, n)) HB.out H0.out H1.out H2.out HGE.out (by first | exact ((Below.refl _ _).drew).alloc (Nat.le_refl _) _ | exact ((Below.refl _ _).alloc (Nat.le_refl _) _).drew | exact (Below.refl _ _).alloc (Nat.le_refl _) _) hown1 hg1 rfl)
      clear hown1 hg1 hat1 hlt1 Z10 b0 b1
      go_wp2_with fail
      go_meet
      case rel => exact ⟨S.out.1, S.out.2.1, S.out.2.2 _ _ _ _ ((by first | exact ((Below.refl _ _).drew).alloc (Nat.le_refl _) _ | exact ((Below.refl _ _).alloc (Nat.le_refl _) _).drew | exact (Below.refl _ _).alloc (Nat.le_refl _) _ : Below W.heap.size W _).block _ (heap_lt HXB.out) |>.trans HXB.out) (by decide) (by decide)⟩
  case rest =>
    clear b0 b1 o0 o1 o2 o3 o4 o5 o6 o7 o8 hl hl0
    obtain ⟨hs, hf, hx⟩ := hcut
    obtain ⟨A0, c0, A1, c1, A2, c2, hb, h0, h1, h2⟩ := hs.ex
    obtain ⟨g0, rfl, hg0, ⟨cs0, hh0, hz0⟩, hc0, hel⟩ := own_elem cvals_len h0 (i := n) HO.out rfl
    have U := Lib.hid (fun (WW : World) => SM.put (W := WW) (x := ⟨q, ⟨tk, tn, ts, tA, tm, tc⟩, ⟨ak, an, as_, aA, am, ac⟩⟩) hb h0 h1 h2 hs.ge hnl)
    have b0 := cell_of_row _ sb 0 _ _ _ hb
    have hl := heap_lt hb
    have hl0 := heap_lt hh0
    have hlx := heap_lt hx
    have of := unfrozen hh0
    have o0 := hel 0 _ rfl
    have o1 := hel 1 _ rfl
    have o2 := hel 2 _ rfl
    have o3 := hel 3 _ rfl
    have o4 := hel 4 _ rfl
    have o5 := hel 5 _ rfl
    have o6 := hel 6 _ rfl
    have o7 := hel 7 _ rfl
    have o8 := hel 8 _ rfl
    have x0 := cell_of_row _ w.heap.size 0 _ _ _ hx
    have x1 := cell_of_row _ w.heap.size 1 _ _ _ hx
    have x2 := cell_of_row _ w.heap.size 2 _ _ _ hx
    have x3 := cell_of_row _ w.heap.size 3 _ _ _ hx
    have x4 := cell_of_row _ w.heap.size 4 _ _ _ hx
    have x5 := cell_of_row _ w.heap.size 5 _ _ _ hx
    have x6 := cell_of_row _ w.heap.size 6 _ _ _ hx
    have x7 := cell_of_row _ w.heap.size 7 _ _ _ hx
    have x8 := cell_of_row _ w.heap.size 8 _ _ _ hx
    simp only [Nat.add_zero] at o0
    have F := Lib.hid (FW.out.trans hf)
    clear hel hh0 hx hb h0 h1 h2 hs hf
    go_wp2_with fail
    go_region
    go_wp2_with fail
    go_end0
    have Z := U.out _ rfl
    exact ⟨rfl, Z.1.below (Below.refl _ _).drew, (F.out.trans Z.2).trans (SF.below (Nat.le_trans hBw (F.out.trans Z.2).low.size) (Below.refl _ _).drew)⟩
end Go.Proofs.Ytgoedlbdnmhppaa
