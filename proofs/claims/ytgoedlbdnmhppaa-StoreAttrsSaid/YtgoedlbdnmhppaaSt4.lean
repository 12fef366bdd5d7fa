/- The program's store: the walk of Undo. -/
import Derived.Test.YtgoedlbdnmhppaaSt3
namespace Go.Proofs.Ytgoedlbdnmhppaa
open Go.RowKit

theorem clear_none (A : Option Addr) (c : Nat) (ty : TypeId) (W : World) : (Builtin.clear_ #[58] ty #[.slice A 0 c]).run Try.prog W = .ok (.tuple #[]) W := by
  obtain ⟨item, hi, hz, hs, _⟩ := elCell.hi
  cases A <;> simp [Builtin.clear_, run_underlying elCell.ht]
set_option maxRecDepth 100000 in
set_option maxHeartbeats 4000000 in
theorem sundo_any {w : World} {B sb v k : Nat} {C : List CV} {R1 R2 : List (CV × Nat)} {M : List (Nat × Nat)} (h : SM w B sb C (R1 ++ R2) M) (hi : ∀ e ∈ R2, e.2 < C.length) (hn : (R1 ++ R2).length ≤ 1000000) (hC : C.length ≤ 1000000) (hM : M.length ≤ 1000000)
    (hk : M[k]? = some (R1.length, v)) (hv : v ≤ C.length) :
    Calls Try.prog 18 #[.pointer (some ⟨sb, 0, none⟩), .int .i64 (k : Int)] w fun e w' => e = .returned (.int .i64 0) ∧ SM w' B sb ((backC C R2).take v) R1 (M.take (k + 1)) ∧ SF B w w' := by
  have hkl : k < M.length := by
    rcases Nat.lt_or_ge k M.length with h1 | h1
    · exact h1
    · rw [List.getElem?_eq_none h1] at hk; cases hk
  obtain ⟨A0, c0, A1, c1, A2, c2, hb, h0, h1, h2⟩ := h.ex
  obtain ⟨g2, rfl, hg2, ⟨cs2, hh2, hz2⟩, hc2, hel⟩ := own_elem mvals_len h2 hk rfl
  have d0 := hel 0 _ rfl
  have d1 := hel 1 _ rfl
  have b2 := cell_of_row w sb 2 _ _ _ hb
  have hl := heap_lt hb
  have hl2 := heap_lt hh2
  have hBs : B ≤ w.heap.size := by have := h.ge; omega
  have hneg : ¬ ((k : Int) < 0) := by omega
  have hge' : ¬ ((k : Int) ≥ (M.length : Int)) := by omega
  have BX := Lib.hid ((Below.refl w.heap.size w).alloc (Nat.le_refl _) (Obj.cells #[.int .i64 (R1.length : Int), .int .i64 (v : Int)] 64))
  have F0 := Lib.hid (SF.below hBs BX.out)
  have CB := Lib.hid (sback_any (h.below BX.out) hi hn hC)
  simp only [Nat.add_zero] at d0 d1
  clear hb h0 h1 h2 hel hh2
  go_enter Try.func18, Try.ntmps18
  go_wp2_with fail
  refine CB.out.mono ?_
  rintro e w1 ⟨rfl, hs, hf, hkm⟩
  have S1 := Lib.hid hs
  have F1 := Lib.hid hf
  have hbx := hkm w.heap.size _ _ (heap_alloc_new _ _)
  have m0 := cell_of_row w1 w.heap.size 0 _ _ _ hbx
  have m1 := cell_of_row w1 w.heap.size 1 _ _ _ hbx
  have ml := heap_lt hbx
  obtain ⟨D, hD⟩ : ∃ D, backC C R2 = D := ⟨_, rfl⟩
  have HD := Lib.hid hD
  have hvD : v ≤ D.length := by rw [← hD, backC_len]; exact hv
  have hDl : D.length ≤ 1000000 := by rw [← hD, backC_len]; exact hC
  rw [hD] at hs
  clear hf hkm d0 d1 b2 hD
  obtain ⟨A0, c0, A1, c1, A2, c2, hb, h0, h1, h2⟩ := hs.ex
  have b0 := cell_of_row w1 sb 0 _ _ _ hb
  have b2 := cell_of_row w1 sb 2 _ _ _ hb
  have hl1 := heap_lt hb
  have hBs1 : B ≤ w1.heap.size := by have := hs.ge; omega
  have zf : ∀ j, w1.frozen? ⟨sb, j, none⟩ = false := fun j => by simp [World.frozen?, hb]
  have ST := Lib.hid (fun (w2 W : World) => SM.struck (w1 := w2) (W := W) hb h0 h1 h2 hs.ge hvD (k := k + 1) hkl)
  rcases Nat.lt_or_ge v D.length with hlt | hge2
  · obtain ⟨g, rfl, hg, ⟨cs0, hh0, hz0⟩, hc0, _⟩ := own_elem cvals_len h0 (i := v) (List.getElem?_eq_getElem hlt) rfl
    obtain ⟨w2, hrun, hgr, hrow⟩ := clear_own (w := w1.drew) h0 hlt
    obtain ⟨n, hn⟩ : ∃ n, D.length = n := ⟨_, rfl⟩
    have hvn : v ≤ n := by omega
    have hb9 := keepBox (w1 := w1.drew) hb h0 (Below.refl _ _).drew hgr (by decide)
    have e0 := cell_of_row w2 sb 0 _ _ _ hb9
    have e2 := cell_of_row w2 sb 2 _ _ _ hb9
    have el := heap_lt hb9
    have ef : ∀ j, w2.frozen? ⟨sb, j, none⟩ = false := fun j => by simp [World.frozen?, hb9]
    have hbx2 := keepBox (w1 := w1.drew) hbx h0 (Below.refl _ _).drew hgr (by decide)
    have f0 := cell_of_row w2 w.heap.size 0 _ _ _ hbx2
    have f1 := cell_of_row w2 w.heap.size 1 _ _ _ hbx2
    have fl := heap_lt hbx2
    have FIN := Lib.hid (fun W => ST.out w2 W ⟨hgr.os, hgr.tape, hgr.output, hgr.size, hgr.block⟩ hrow)
    have hk1 : k + 1 ≤ c2 := by have := own_open h2; obtain ⟨_, _, e, hc, _⟩ := this; injection e with _ _ e; omega
    have hkl' : (k : Int) + 1 ≤ (M.length : Int) := by omega
    rw [hn] at hrun b0 e0
    have HN := Lib.hid hn
    have hrun2 := fun c => hrun 0 c
    have hlt' : (v : Int) < (n : Int) := by omega
    have hvc : v ≤ c0 := by omega
    clear hn hb h0 h1 h2 hh0 hs hb9 hbx hbx2 hgr hrow
    go_wp2_with fail
    go_region
    go_wp2_with fail
    go_region
    go_wp2_with fail
    go_ret
    rw [HD.out]
    have Z := FIN.out _ rfl
    exact ⟨rfl, Z.1.below (Below.refl _ _).drew, ((F0.out.trans F1.out).trans Z.2).trans (SF.below (Nat.le_trans hBs1 Z.2.low.size) (Below.refl _ _).drew)⟩
  · obtain rfl : v = D.length := by omega
    have hb9 := keepBox (w1 := w1) hb h0 (Below.refl _ _) ⟨rfl, rfl, rfl, Nat.le_refl _, fun _ _ _ => rfl⟩ (by decide)
    have FIN := Lib.hid (show ∀ (W : World) (n' : Nat), D.length = n' → W = (w1.setCell ⟨sb, 0, none⟩ (.slice A0 n' c0)).setCell ⟨sb, 2, none⟩ (.slice A2 (k + 1) c2) → SM W B sb (D.take D.length) R1 (M.take (k + 1)) ∧ SF B w1 W from fun W n' e hW => by
      subst e
      exact ST.out w1 W ⟨rfl, rfl, rfl, Nat.le_refl _, fun _ _ _ => rfl⟩ (by rw [List.take_length]; exact h0) hW)
    have hk1 : k + 1 ≤ c2 := by have := own_open h2; obtain ⟨_, _, e, hc, _⟩ := this; injection e with _ _ e; omega
    have hkl' : (k : Int) + 1 ≤ (M.length : Int) := by omega
    have hc0 : D.length ≤ c0 := by have := own_open h0; obtain ⟨_, _, e, hc, _⟩ := this; injection e with _ _ e; omega
    have hb2 := Lib.hid hb
    obtain ⟨n, hn⟩ : ∃ n, D.length = n := ⟨_, rfl⟩
    have HN := Lib.hid hn
    rw [hn] at b0 hc0 hvD hDl m1
    have hrun2 := fun A c => clear_none A c
    clear hn hb h0 h1 h2 hs hb9 hbx hge2
    by_cases hcc : c0 = n
    · subst hcc
      go_wp2_with fail
      go_region_with fail
      all_goals
        go_wp2_with fail
        go_region
        go_wp2_with fail
        go_ret
        rw [HD.out]
        have Z := FIN.out _ _ HN.out rfl
        have BZ := Lib.hid (fun (WZ : World) => (Below.refl WZ.heap.size WZ).drew.drew)
        exact ⟨rfl, Z.1.below (BZ.out _), ((F0.out.trans F1.out).trans Z.2).trans (SF.below (Nat.le_trans hBs1 Z.2.low.size) (BZ.out _))⟩
    · have hcl : n < c0 := by omega
      go_wp2_with fail
      go_region_with fail
      all_goals
        go_wp2_with fail
        go_region
        go_wp2_with fail
        go_ret
        rw [HD.out]
        have Z := FIN.out _ _ HN.out rfl
        have BZ := Lib.hid (fun (WZ : World) => (Below.refl WZ.heap.size WZ).drew.drew)
        exact ⟨rfl, Z.1.below (BZ.out _), ((F0.out.trans F1.out).trans Z.2).trans (SF.below (Nat.le_trans hBs1 Z.2.low.size) (BZ.out _))⟩
end Go.Proofs.Ytgoedlbdnmhppaa
