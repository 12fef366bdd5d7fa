/- The walk through coneylaw08.pairs. -/
import Derived.Test.YtjjkigphfijnbaaPairs0
import Derived.Deep.DrawnRows
import Derived.Deep.RegionHeld3
import Derived.Deep.DeepCutAuto
namespace Go.Proofs.Ytjjkigphfijnbaa
open Go.RowKit

/-- What 'pairs' hands back. -/
def PairsP (w : World) (e : Ending) (w' : World) : Prop := (∃ v ps, e = .returned v ∧ QRow w' w.heap.size v ps ∧ (∀ p ∈ ps, p.1.ok ∧ p.2.ok) ∧ ps.length ≤ 12) ∧ Below w.heap.size w w'
theorem QRow.empty (w : World) (B g : Nat) (hB : B ≤ g) (hg : w.heap[g]? = some (.cells #[] 37 (0, 0))) : QRow w B (.slice (some ⟨g, 0, none⟩) 0 0) [] :=
  ⟨[], ownsRow_more (ownsRow_empty w _ 8 g hg) hB, fun q p h => by simp at h⟩
/-- The loop over the sentences: where it stands. -/
structure PL (w : World) (sv : Value) (n : Nat) (xs : List Value) (ts : Nat → T) (wr : World) (i : Nat) (v : Value) (ps : List (T × T)) : Prop where
  row : QRow wr w.heap.size v ps
  ok : ∀ p ∈ ps, p.1.ok ∧ p.2.ok
  few : ps.length ≤ i
  own : wr.ownsRow (w.heap.size + 1) 61 5 sv n xs
  s5 : S5 wr (w.heap.size + 1) xs n ts
  low : Below w.heap.size w wr
theorem PL.below {w : World} {sv : Value} {n : Nat} {xs : List Value} {ts : Nat → T} {wr w' : World} {i : Nat} {v : Value} {ps : List (T × T)} (h : PL w sv n xs ts wr i v ps) (hb : Below wr.heap.size wr w') : PL w sv n xs ts w' (i + 1) v ps :=
  ⟨h.row.below hb, h.ok, Nat.le_succ_of_le h.few, own_below h.own hb, h.s5.keep fun b _ _ hh => (hb.block b (heap_lt hh)).trans hh, h.low.trans (hb.mono h.low.size)⟩
theorem pl_push {w : World} {sv : Value} {n : Nat} {xs : List Value} {ts : Nat → T} {wr W1 w1 w2 : World} {i : Nat} {v v' : Value} {ps : List (T × T)} {xq : List Value} {a b : T} {u0 u1 : Int} {u2 : ByteArray} {U0 : Option Addr} {um uc : Nat} {v0 v1 : Int} {v2 : ByteArray} {V0 : Option Addr} {vm vc : Nat}
    (h : PL w sv n xs ts W1 (i + 1) v ps) (hx : W1.ownsRow w.heap.size 37 8 v ps.length xq) (hp : ∀ q p, ps[q]? = some p → ∃ k0 k1 k2 A0 m0 c0 j0 j1 j2 B0 n0 d0, PCell wr xq q p k0 k1 k2 A0 m0 c0 j0 j1 j2 B0 n0 d0) (hw : Below wr.heap.size wr W1) (hb : Below W1.heap.size W1 w1)
    (ha : TP W1 (fun _ => True) a (.agg #[.int .i64 u0, .int .i64 u1, .string u2, .slice U0 um uc])) (hbb : TP W1 (fun _ => True) b (.agg #[.int .i64 v0, .int .i64 v1, .string v2, .slice V0 vm vc])) (oa : a.ok) (ob : b.ok)
    (hown : w2.ownsRow w.heap.size 37 8 v' (ps.length + 1) (xq ++ [.int .i64 u0, .int .i64 u1, .string u2, .slice U0 um uc, .int .i64 v0, .int .i64 v1, .string v2, .slice V0 vm vc])) (hg : w1.grownBy w2 v.ownBlock) (hfew : ps.length ≤ i) : FarT W1 w2 ∧ PL w sv n xs ts w2 (i + 1) v' (ps ++ [(a, b)]) := by
  have h1 := own_below hx hb
  have far : FarT W1 w2 := fun b cs f hh => by
    have h3 := (hb.block b (heap_lt hh)).trans hh
    exact (grown_far h1 hg h3 fun _ _ => cells_ne (by decide)).trans hh.symm
  refine ⟨far, QRow.push hx (fun q p hq => ?_) hb (ha.below hb) (hbb.below hb) hown hg, fun p hp => ?_, by rw [List.length_append]; simp; omega, own_far h1 hg (own_below h.own hb) (by decide), h.s5.keep fun b cs f hh => (far b cs f hh).trans hh, (h.low.trans (hb.mono h.low.size)).grown hg (Nat.le_trans h.low.size hb.size) fun k hk => (h1.lt k hk).1⟩
  · obtain ⟨_, _, _, _, _, _, _, _, _, _, _, _, hc⟩ := hp q p hq
    exact ⟨_, _, _, _, _, _, _, _, _, _, _, _, hc.keep (fun _ _ => rfl) fun ht => ht.below hw⟩
  · rcases List.mem_append.mp hp with hp | hp
    · exact h.ok p hp
    · simp at hp; subst hp; exact ⟨oa, ob⟩
set_option maxRecDepth 100000 in
set_option maxHeartbeats 8000000 in
theorem pairs_any (s : ByteArray) (w : World) : Calls Try.prog 10 #[.string s] w fun e w' => PairsP w e w' := by
  by_cases hs : (s.size : Int) > 1024
  · go_enter Try.func10, Try.ntmps10
    go_wp2_with fail
    go_ret
    exact ⟨⟨_, [], rfl, QRow.empty _ _ _ (Nat.le_refl _) (heap_alloc_new _ _), fun p h => absurd h List.not_mem_nil, by simp⟩, (Below.refl _ _).alloc (Nat.le_refl _) _⟩
  · have hs' : ¬ 1024 < (s.size : Int) := hs
    go_enter Try.func10, Try.ntmps10
    go_wp2_with fail
    refine (read_any s _).mono ?_
    rintro e w1 ⟨⟨sv, p, er, rfl, h0, h1⟩, h2⟩
    obtain ⟨n, xs, ts, hown, hs5, hn⟩ : ∃ n xs ts, w1.ownsRow (w.heap.size + 1) 61 5 sv n xs ∧ S5 w1 (w.heap.size + 1) xs n ts ∧ n ≤ 1000 := by
      by_cases her : er = 0
      · obtain ⟨n, xs, ts, a, b, c⟩ := h1 her
        simp at a b
        exact ⟨n, xs, ts, a, b, c⟩
      · rw [h0 her]
        exact ⟨0, [], fun _ => .nil, World.ownsRow_nil _ _ _ _, fun k hk => absurd hk (by omega), by omega⟩
    obtain ⟨SA, sc, rfl, _, _, _, _⟩ := own_open hown
    have P0 := Lib.hid (show PL w (.slice SA n sc) n xs ts w1 0 (.slice (some ⟨w.heap.size, 0, none⟩) 0 0) [] from
      ⟨QRow.empty _ _ _ (Nat.le_refl _) ((h2.block _ (by simp)).trans (heap_alloc_new _ _)), fun p h => absurd h List.not_mem_nil, Nat.zero_le _, hown, hs5, ((Below.refl w.heap.size w).alloc (Nat.le_refl _) _).trans (h2.mono (by simp))⟩)
    clear h0 h1 h2 hown hs5
    go_wp2_with fail
    go_loopw [3, 7] (fun v iv wr => ∃ (i : Nat) (ps : List (T × T)), iv = .int .i64 (i : Int) ∧ i ≤ n ∧ i ≤ 12 ∧ PL w (.slice SA n sc) n xs ts wr i v ps) (fun _ iv _ => 12 - (intOf iv).toNat)
    case atStart => exact ⟨0, [], rfl, Nat.zero_le _, by omega, P0.out⟩
    case round =>
      clear P0
      obtain ⟨i, ps, rfl, hi, hi12, hl⟩ := hrel
      obtain ⟨xq, hxq, hpq⟩ := hl.row
      obtain ⟨QA, qc, rfl, _, _, _, _⟩ := own_open hxq
      have R := Lib.hid hl
      clear hl
      by_cases hc : i < n ∧ i < 12
      · obtain ⟨hin, hi2⟩ := hc
        have hin' : (i : Int) < (n : Int) := by omega
        have hi2' : (i : Int) < 12 := by omega
        obtain ⟨z0, z1, z2, z3, zA, zm, zc, y0, y1, y2, y3, _, ht, hgd, hnd⟩ := R.out.s5 i hin
        obtain ⟨k0, k1, k2, A0, m0, c0, he⟩ := ht.agg
        injection he with he
        simp only [Array.mk.injEq, List.cons.injEq, and_true] at he
        obtain ⟨rfl, rfl, rfl, rfl⟩ := he
        obtain ⟨A', c', e', _, _, _, hcl⟩ := own_open R.out.own
        injection e' with e1 e2 e3
        subst e1
        obtain ⟨gs, cur, rfl, _, hgs, hcur⟩ := hcl (by omega)
        have hgl := heap_lt hgs
        have key : ∀ j, j < 5 → wr.cell? ⟨gs, i * 5 + j, none⟩ = xs[5 * i + j]? := fun j hj => by
          rw [cell_of_row wr gs _ _ _ _ hgs, hcur _ (by omega), Nat.mul_comm]
        have d0 := (key 0 (by omega)).trans y0
        have d1 := (key 1 (by omega)).trans y1
        have d2 := (key 2 (by omega)).trans y2
        have d3 := (key 3 (by omega)).trans y3
        simp only [Nat.add_zero] at d0
        have HT := Lib.hid ht
        have OK := Lib.hid (show (ts i).ok from ⟨hgd, hnd⟩)
        have HXQ := Lib.hid hxq
        have HPQ := Lib.hid hpq
        have BB := Lib.hid (belA (Below.refl wr.heap.size wr) (Obj.cells #[.int .i64 k0, .int .i64 k1, .string k2, .slice A0 m0 c0] 34))
        have N1 := Lib.hid (R.out.below BB.out)
        clear key hcl hcur hgs ht hgd hnd e2 e3 y0 y1 y2 y3 hxq hpq
        by_cases hall : k0 = 4 ∧ k2.toList = [61] ∧ m0 = 2
        · obtain ⟨rfl, hk2, rfl⟩ := hall
          have ht := HT.out
          obtain ⟨fa, hfa⟩ := ht.shape
          have hok := OK.out
          rw [hfa] at ht hok
          obtain ⟨_, _, _, _, _, _, hargs⟩ := ht.args
          obtain ⟨ga, u0, u1, u2, U0, um, uc, rfl, _, hga, a0, a1, a2, a3, ta⟩ := hargs 0 (by omega)
          obtain ⟨gb, v0, v1, v2, V0, vm, vc, hgb, _, _, b0, b1, b2, b3, tb⟩ := hargs 1 (by omega)
          injection hgb with hgb
          injection hgb with hgb
          subst hgb
          obtain ⟨csa, fra, hba⟩ := ht.blk (by omega)
          obtain ⟨W1, hW1⟩ : ∃ W1, W1 = wr.alloc (Obj.cells #[.int .i64 4, .int .i64 k1, .string k2, .slice (some ⟨ga, 0, none⟩) 2 c0] 34) := ⟨_, rfl⟩
          have hbox : W1.heap[wr.heap.size]? = some (.cells #[.int .i64 4, .int .i64 k1, .string k2, .slice (some ⟨ga, 0, none⟩) 2 c0] 34 (0, 0)) := by rw [hW1]; exact heap_alloc_new _ _
          rw [← hW1] at BB N1
          have hbw := (BB.out.block _ (heap_lt hba)).trans hba
          have KPS := Lib.hid (show ∀ w', FarT W1 w' → w'.cell? ⟨wr.heap.size, 3, none⟩ = some (.slice (some ⟨ga, 0, none⟩) 2 c0) ∧ w'.cell? ⟨ga, 0, none⟩ = some (.int .i64 u0) ∧ w'.cell? ⟨ga, 1, none⟩ = some (.int .i64 u1) ∧ w'.cell? ⟨ga, 2, none⟩ = some (.string u2) ∧ w'.cell? ⟨ga, 3, none⟩ = some (.slice U0 um uc) ∧ w'.cell? ⟨ga, 4, none⟩ = some (.int .i64 v0) ∧ w'.cell? ⟨ga, 5, none⟩ = some (.int .i64 v1) ∧ w'.cell? ⟨ga, 6, none⟩ = some (.string v2) ∧ w'.cell? ⟨ga, 7, none⟩ = some (.slice V0 vm vc) from fun w' hw =>
            ⟨(hw.cell hbox).trans (cell_of_row _ _ 3 _ _ _ hbox), (hw.cell hbw).trans ((BB.out.cell (p := ⟨ga, 0, none⟩) hga).trans (by simpa using a0)), (hw.cell hbw).trans ((BB.out.cell (p := ⟨ga, 1, none⟩) hga).trans (by simpa using a1)), (hw.cell hbw).trans ((BB.out.cell (p := ⟨ga, 2, none⟩) hga).trans (by simpa using a2)), (hw.cell hbw).trans ((BB.out.cell (p := ⟨ga, 3, none⟩) hga).trans (by simpa using a3)),
             (hw.cell hbw).trans ((BB.out.cell (p := ⟨ga, 4, none⟩) hga).trans (by simpa using b0)), (hw.cell hbw).trans ((BB.out.cell (p := ⟨ga, 5, none⟩) hga).trans (by simpa using b1)), (hw.cell hbw).trans ((BB.out.cell (p := ⟨ga, 6, none⟩) hga).trans (by simpa using b2)), (hw.cell hbw).trans ((BB.out.cell (p := ⟨ga, 7, none⟩) hga).trans (by simpa using b3))⟩)
          have TA := Lib.hid ((ta.below BB.out).more (S' := fun _ => True) fun _ _ => trivial)
          have TB := Lib.hid ((tb.below BB.out).more (S' := fun _ => True) fun _ _ => trivial)
          have O0 := Lib.hid (hok.arg (i := 0) (by omega))
          have O1 := Lib.hid (hok.arg (i := 1) (by omega))
          have HX1 := Lib.hid (own_below HXQ.out BB.out)
          have hps : ps.length ≤ 12 := Nat.le_trans R.out.few hi12
          have hsw : w.heap.size ≤ W1.heap.size := N1.out.low.size
          obtain ⟨item, ii1, ii2, ii3, ii4⟩ := elTwo.hi
          clear ht hfa hok hargs ta tb hba hbox hbw a0 a1 a2 a3 b0 b1 b2 b3
          go_upto_region 10 with fail
          rw [← hW1]
          clear hW1
          go_region_held3 (fun w' => w'.cell? ⟨wr.heap.size, 3, none⟩ = some (.slice (some ⟨ga, 0, none⟩) 2 c0) ∧ w'.cell? ⟨ga, 0, none⟩ = some (.int .i64 u0) ∧ w'.cell? ⟨ga, 1, none⟩ = some (.int .i64 u1) ∧ w'.cell? ⟨ga, 2, none⟩ = some (.string u2) ∧ w'.cell? ⟨ga, 3, none⟩ = some (.slice U0 um uc) ∧ w'.cell? ⟨ga, 4, none⟩ = some (.int .i64 v0) ∧ w'.cell? ⟨ga, 5, none⟩ = some (.int .i64 v1) ∧ w'.cell? ⟨ga, 6, none⟩ = some (.string v2) ∧ w'.cell? ⟨ga, 7, none⟩ = some (.slice V0 vm vc))
            (first | (with_reducible exact KPS.out _ (FarT.below (Below.refl _ _).drew)) | (with_reducible exact KPS.out _ (FarT.below (belA (Below.refl _ _) _).drew)) | (with_reducible exact KPS.out _ (FarT.below (belA (Below.refl _ _).drew _))) | (with_reducible exact KPS.out _ bw10))
            ((refine step_append_lies _ rfl _ _ _ rfl w.heap.size 37 item (.agg #[.int .i64 0, .int .i64 0, .string ⟨#[]⟩, .slice none 0 0, .int .i64 0, .int .i64 0, .string ⟨#[]⟩, .slice none 0 0]) 8 112 Try.underlying22 ii1 ii2 ii3 ii4 rfl (by omega) _ ps.length xq rfl (own_below HX1.out (by first | exact ((Below.refl _ _).drew).alloc (Nat.le_refl _) _ | exact ((Below.refl _ _).alloc (Nat.le_refl _) _).drew)) ⟨W1.heap.size, 0, none⟩ 1 1 [.int .i64 u0, .int .i64 u1, .string u2, .slice U0 um uc, .int .i64 v0, .int .i64 v1, .string v2, .slice V0 vm vc] rfl rfl (World.news_of_block (heap_alloc_new _ _)) (by intro u hu; simp only [List.mem_cons, List.not_mem_nil, or_false] at hu; rcases hu with rfl | rfl | rfl | rfl | rfl | rfl | rfl | rfl <;> rfl) (by omega) (by unfold maxLen; omega) (by omega) (by simp; omega) _ rfl ?_; intro g1 cap1 w10 hown1 hg1 hat1 hlt1; have ⟨bw10, nx10⟩ := pl_push N1.out HX1.out HPQ.out BB.out (by first | exact ((Below.refl _ _).drew).alloc (Nat.le_refl _) _ | exact ((Below.refl _ _).alloc (Nat.le_refl _) _).drew) TA.out TB.out O0.out O1.out hown1 hg1 R.out.few; clear hown1 hg1 hat1 hlt1))
          have NX := Lib.hid nx10
          clear bw10 nx10
          go_wp2_with fail
          go_roundw
          case rel => exact ⟨i + 1, _, by go_num, by omega, by omega, NX.out⟩
          case measure => simp [intOf]; omega
        · cases ha : (k0 == 4)
          all_goals
            cases hb : (k2.toList == [61])
            all_goals
              cases hc2 : ((m0 : Int) == 2)
              all_goals first
                | (exfalso; simp at ha hb hc2; exact hall ⟨ha, hb, by omega⟩)
                | (clear hall
                   go_wp2_with fail
                   go_roundw
                   case rel => exact ⟨i + 1, ps, by go_num, by omega, by omega, N1.out⟩
                   case measure => simp [intOf]; omega)
      · by_cases hin : (i : Int) < (n : Int)
        all_goals
          have h12 : (i : Int) < (n : Int) → ¬ (i : Int) < 12 := fun h => by omega
          clear hc hpq hxq
          go_wp2_with fail
          go_ret
          exact ⟨⟨_, ps, rfl, R.out.row, R.out.ok, Nat.le_trans R.out.few hi12⟩, R.out.low⟩
end Go.Proofs.Ytjjkigphfijnbaa
