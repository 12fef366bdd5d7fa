/- Are two rows of tokens the same? -/
import Derived.Test.YtgaganmcfoeejaaLex4
namespace Go.Proofs.Ytgaganmcfoeejaa
open Go.RowKit
theorem tokrow {w : World} {B : Nat} {A : Option Addr} {c n i : Nat} {l : List Tk} (h : w.ownsRow B 29 4 (.slice A n c) n (tkCells l)) (hn : n = l.length) (hi : i < l.length) : ∃ g, A = some ⟨g, 0, none⟩ ∧ g < w.heap.size ∧ ∀ j, j < 4 → w.cell? ⟨g, i * 4 + j, none⟩ = (l[i]'hi).cells[j]? := by
  obtain ⟨A', c', he, _, _, _, hx⟩ := own_open h
  injection he with e1 _ e3
  subst e1; subst e3
  obtain ⟨g, cur, rfl, _, hh, hc⟩ := hx (by omega)
  exact ⟨g, rfl, heap_lt hh, fun j hj => by rw [cell_of_row w g (i * 4 + j) _ _ _ hh, hc _ (by omega), Nat.mul_comm i 4]; exact tkCells_at l i hi j hj⟩
theorem tk_ne {x y : Tk} (h : ¬ x = y) (h0 : x.k = y.k) (h1 : x.t.toList = y.t.toList) (h2 : (x.a : Int) = (y.a : Int)) : ¬ (x.b : Int) = (y.b : Int) := by
  intro h3
  apply h
  obtain ⟨k, t, a, b⟩ := x
  obtain ⟨k', t', a', b'⟩ := y
  dsimp only at h0 h1 h2 h3
  have : t = t' := by
    apply ByteArray.ext
    apply Array.toList_inj.1
    simpa [ByteArray.toList_eq] using h1
  subst h0; subst this
  congr <;> omega
set_option maxHeartbeats 4000000 in
set_option maxRecDepth 100000 in
theorem same3_any {a b : List Tk} (w : World) {va vb : Value} {B B' : Nat} (ha : w.ownsRow B 29 4 va a.length (tkCells a)) (hb : w.ownsRow B' 29 4 vb b.length (tkCells b)) (hfew : a.length ≤ 1000) :
    Calls Try.prog 10 #[va, vb] w fun e w' => (∃ r, e = .returned (.bool r) ∧ (r = true ↔ a = b)) ∧ Below w.heap.size w w' := by
  have OA := Lib.hid ha
  have OB := Lib.hid hb
  obtain ⟨A, c, rfl, hc, _, _, _⟩ := own_open ha
  obtain ⟨A', c', rfl, hc', _, _, _⟩ := own_open hb
  clear ha hb
  by_cases hl : a.length = b.length
  · have HL := Lib.hid hl
    have hli : (a.length : Int) = (b.length : Int) := by omega
    clear hl
    go_enter Try.func10, Try.ntmps10
    go_wp2_with fail
    go_loopw [5] (fun iv wr => ∃ i : Nat, iv = .int .i64 (i : Int) ∧ i ≤ a.length ∧ a.take i = b.take i ∧ Below w.heap.size w wr) (fun iv _ => a.length - (intOf iv).toNat)
    case atStart => exact ⟨0, rfl, Nat.zero_le _, rfl, Below.refl _ _⟩
    case round =>
      obtain ⟨i, rfl, hi, hab, hbw⟩ := hrel
      have HAB := Lib.hid hab
      have BW := Lib.hid hbw
      have OA' := Lib.hid (own_below OA.out hbw)
      have OB' := Lib.hid (own_below OB.out hbw)
      clear hab hbw
      by_cases hil : i < a.length
      · have hil' : (i : Int) < (a.length : Int) := by omega
        have hjl' : (i : Int) < (b.length : Int) := by omega
        have hjl : i < b.length := by omega
        obtain ⟨g, rfl, hg, hcell⟩ := tokrow OA'.out rfl hil
        obtain ⟨x, hx⟩ : ∃ x, a[i]'hil = x := ⟨_, rfl⟩
        rw [hx] at hcell
        have h0 := hcell 0 (by omega)
        have h1 := hcell 1 (by omega)
        have h2 := hcell 2 (by omega)
        have h3 := hcell 3 (by omega)
        obtain ⟨g', rfl, hg', kcell⟩ := tokrow OB'.out rfl hjl
        obtain ⟨y, hy⟩ : ∃ y, b[i]'hjl = y := ⟨_, rfl⟩
        rw [hy] at kcell
        have k0 := kcell 0 (by omega)
        have k1 := kcell 1 (by omega)
        have k2 := kcell 2 (by omega)
        have k3 := kcell 3 (by omega)
        simp [Tk.cells] at h0 h1 h2 h3 k0 k1 k2 k3
        have X0 := Lib.hid hx
        have Y0 := Lib.hid hy
        clear hcell kcell hx hy
        by_cases hxy : x = y
        · subst hxy
          go_wp2_with fail
          go_region
          go_wp2_with fail
          go_roundw
          case rel =>
            refine ⟨i + 1, by go_num, by omega, ?_, by first | exact BW.out.drew | exact BW.out⟩
            rw [List.take_succ_eq_append_getElem hil, List.take_succ_eq_append_getElem hjl, X0.out, Y0.out, HAB.out]
          case measure => simp [intOf]; omega
        · have HXY := Lib.hid hxy
          clear hxy
          have HNE := Lib.hid (show ¬ a = b from fun h => HXY.out (by rw [← X0.out, ← Y0.out]; simp only [h]))
          have done : ∀ (w' : World), (w' = wr ∨ w' = wr.drew) → (∃ r, Ending.returned (Value.bool false) = .returned (.bool r) ∧ (r = true ↔ a = b)) ∧ Below w.heap.size w w' := by
            intro w' hw
            refine ⟨⟨false, rfl, fun h => (by cases h), fun h => absurd h HNE.out⟩, ?_⟩
            rcases hw with rfl | rfl
            · exact BW.out
            · exact BW.out.drew
          have DONE := Lib.hid done
          clear done
          by_cases e0 : x.k = y.k
          · by_cases e1 : x.t.toList = y.t.toList
            · by_cases e2 : (x.a : Int) = (y.a : Int)
              · have e3 : ¬ (x.b : Int) = (y.b : Int) := tk_ne HXY.out e0 e1 e2
                go_wp2_with fail
                go_region
                go_wp2_with fail
                go_ret
                first | exact DONE.out _ (.inl rfl) | exact DONE.out _ (.inr rfl)
              · go_wp2_with fail
                go_region
                go_wp2_with fail
                go_ret
                first | exact DONE.out _ (.inl rfl) | exact DONE.out _ (.inr rfl)
            · go_wp2_with fail
              go_region
              go_wp2_with fail
              go_ret
              first | exact DONE.out _ (.inl rfl) | exact DONE.out _ (.inr rfl)
          · go_wp2_with fail
            go_region
            go_wp2_with fail
            go_ret
            first | exact DONE.out _ (.inl rfl) | exact DONE.out _ (.inr rfl)
      · go_wp2_with fail
        go_ret
        have hi2 : i = a.length := by omega
        subst hi2
        have he : a = b := by
          have h1 := HAB.out
          rw [List.take_length, HL.out, List.take_length] at h1
          exact h1
        exact ⟨⟨true, rfl, fun _ => he, fun _ => rfl⟩, BW.out⟩
  · have hli : ¬ (a.length : Int) = (b.length : Int) := by omega
    go_enter Try.func10, Try.ntmps10
    go_wp2_with fail
    go_ret
    exact ⟨⟨false, rfl, fun h => (by cases h), fun h => absurd (by rw [h]) hl⟩, Below.refl _ _⟩
end Go.Proofs.Ytgaganmcfoeejaa
