/- Terms that Compare calls the same. The walks through coneyref07.order, texts, Compare; coneyref08.Same: 0 just for the same terms. -/
import Derived.Test.YtlgeepjlnjlgdaaDoorEF
import Derived.Test.YtlgeepjlnjlgdaaDoorEJ
import Derived.WalkLawsBesides
import Derived.Deep.RegionHeld3
import Derived.Deep.DrawnRows
namespace Go.Proofs.YtlgeepjlnjlgdaaDoor
open Go.RowKit

/-- No part has more arguments than a text's term may have. -/
def T.thin : T → Prop
  | .nil => False
  | .mk _ _ _ m a => m ≤ 4000 ∧ ∀ i, i < m → (a i).thin
theorem T.ok.thin : ∀ {t : T}, t.ok → t.thin
  | .nil, h => h.1.elim
  | .mk _ _ _ _ _, h => ⟨Nat.le_of_lt h.few, fun _ hi => (h.arg hi).thin⟩

/-- What Compare calls the same. -/
def eqT : T → T → Prop
  | .mk k n s m a, .mk k' n' s' m' a' => k = k' ∧ (k = 1 ∨ k = 2 → n = n') ∧ (k = 3 → s = s') ∧ (k ≠ 1 → k ≠ 2 → k ≠ 3 → m = m' ∧ s = s' ∧ ∀ i, i < m → eqT (a i) (a' i))
  | _, _ => False
theorem eqT_refl : ∀ {t : T}, t.thin → eqT t t
  | .nil, h => h.elim
  | .mk _ _ _ _ _, h => ⟨rfl, fun _ => rfl, fun _ => rfl, fun _ _ _ => ⟨rfl, rfl, fun i hi => eqT_refl (h.2 i hi)⟩⟩
end Go.Proofs.YtlgeepjlnjlgdaaDoor
namespace Go.Proofs.YtlgeepjlnjlgdaaDoor
open Go.RowKit
attribute [local go_sem ↓] Go.wp_at_zero Go.wp_at_succ

theorem bytes_eq {a b : ByteArray} (h : a.toList = b.toList) : a = b := by
  rw [ByteArray.toList_eq, ByteArray.toList_eq] at h
  exact ByteArray.ext (Array.ext' h)
/-- Are two terms that are no variables unlike at once? -/
def FailB (ka na : Int) (sa : ByteArray) (ma : Nat) (kb nb : Int) (sb : ByteArray) (mb : Nat) (bb : Bool) : Prop :=
  (bb = true → ka ≠ kb ∨ (ka = 2 ∧ na ≠ nb) ∨ sa ≠ sb ∨ ma ≠ mb) ∧ (bb = false → ka = kb ∧ (ka = 2 → na = nb) ∧ sa = sb ∧ ma = mb)
theorem less_irrefl : ∀ l : List UInt8, Op.bytesLess l l = false
  | [] => rfl
  | a :: l => by simp [Op.bytesLess, less_irrefl l]
/-- A number that is 0 just if something holds. -/
def Zero (P : Prop) (w : World) (e : Ending) (w' : World) : Prop := (∃ c : Int, e = .returned (.int .i64 c) ∧ (c = 0 ↔ P) ∧ -1 ≤ c ∧ c ≤ 1) ∧ Below w.heap.size w w'
theorem order_any (a b : Int) (w : World) : Calls Tryd.prog 36 #[.int .i64 a, .int .i64 b] w fun e w' => Zero (a = b) w e w' := by
  rcases Int.lt_trichotomy a b with h | h | h
  · go_enter Tryd.func36, Tryd.ntmps36
    go_wp2_with fail
    go_ret
    exact ⟨⟨-1, rfl, ⟨fun h => by omega, fun h => by omega⟩, by omega, by omega⟩, Below.refl _ _⟩
  · have h1 : ¬ a < b := by omega
    have h2 : ¬ b < a := by omega
    have H := Lib.hid h
    clear h
    go_enter Tryd.func36, Tryd.ntmps36
    go_wp2_with fail
    go_ret
    exact ⟨⟨0, rfl, ⟨fun _ => H.out, fun _ => rfl⟩, by omega, by omega⟩, Below.refl _ _⟩
  · have h1 : ¬ a < b := by omega
    go_enter Tryd.func36, Tryd.ntmps36
    go_wp2_with fail
    go_ret
    exact ⟨⟨1, rfl, ⟨fun h => by omega, fun h => by omega⟩, by omega, by omega⟩, Below.refl _ _⟩
theorem texts_any (a b : ByteArray) (w : World) : Calls Tryd.prog 37 #[.string a, .string b] w fun e w' => Zero (a = b) w e w' := by
  by_cases h : a = b
  · have h1 : Op.bytesLess a.toList b.toList = false := by rw [h]; exact less_irrefl _
    have h2 : (!a.toList == b.toList) = false := by rw [h]; simp
    have H := Lib.hid h
    clear h
    go_enter Tryd.func37, Tryd.ntmps37
    go_wp2_with fail
    go_ret
    exact ⟨⟨0, rfl, ⟨fun _ => H.out, fun _ => rfl⟩, by omega, by omega⟩, Below.refl _ _⟩
  · have h2 : (!a.toList == b.toList) = true := by
      simp only [Bool.not_eq_true', beq_eq_false_iff_ne]
      exact fun e => h (bytes_eq e)
    have H := Lib.hid h
    clear h
    cases h1 : Op.bytesLess a.toList b.toList
    · go_enter Tryd.func37, Tryd.ntmps37
      go_wp2_with fail
      go_ret
      exact ⟨⟨1, rfl, ⟨fun h => by omega, fun h => absurd h H.out⟩, by omega, by omega⟩, Below.refl _ _⟩
    · go_enter Tryd.func37, Tryd.ntmps37
      go_wp2_with fail
      go_ret
      exact ⟨⟨-1, rfl, ⟨fun h => by omega, fun h => absurd h H.out⟩, by omega, by omega⟩, Below.refl _ _⟩
set_option maxRecDepth 100000 in
set_option maxHeartbeats 8000000 in
theorem cmp_any : ∀ (t u : T), t.thin → u.thin → ∀ (v v' : Value) (w : World) (S S' : Nat → Prop), TP w S t v → TP w S' u v' →
    Calls Tryd.prog 16 #[v, v'] w fun e w' => Zero (eqT t u) w e w' := by
  intro t
  induction t with
  | nil => exact fun u h => h.elim
  | mk k n s m a ih =>
    intro u
    cases u with
    | nil => exact fun _ h => h.elim
    | mk k' n' s' m' a' =>
    intro ht hu v v' w S S' hv hv'
    obtain ⟨A, c, rfl, hmc, hA, hx⟩ := hv
    obtain ⟨A', c', rfl, hmc', hA', hx'⟩ := hv'
    have HX := Lib.hid hx
    have HX' := Lib.hid hx'
    have HT := Lib.hid ht
    have HU := Lib.hid hu
    have IH := Lib.hid ih
    have hm : m ≤ 4000 := ht.1
    have hm' : m' ≤ 4000 := hu.1
    have BX := Lib.hid (belA (belA (Below.refl w.heap.size w) (Obj.cells #[.int .i64 k, .int .i64 n, .string s, .slice A m c] 24)) (Obj.cells #[.int .i64 k', .int .i64 n', .string s', .slice A' m' c'] 24))
    have hz1 : (0 : Int) ≤ m := by omega
    have hz2 : (0 : Int) ≤ m' := by omega
    clear hx hx' ht hu ih hA hA'
    have EQ := Lib.hid (show eqT (.mk k n s m a) (.mk k' n' s' m' a') ↔ (k = k' ∧ (k = 1 ∨ k = 2 → n = n') ∧ (k = 3 → s = s') ∧ (k ≠ 1 → k ≠ 2 → k ≠ 3 → m = m' ∧ s = s' ∧ ∀ i, i < m → eqT (a i) (a' i))) from Iff.rfl)
    obtain ⟨P, hP⟩ : ∃ P, eqT (.mk k n s m a) (.mk k' n' s' m' a') = P := ⟨_, rfl⟩
    rw [hP] at EQ ⊢
    clear hP
    by_cases hk : k = k'
    · obtain rfl : k' = k := hk.symm
      have hkk : (k' != k') = false := by simp
      clear hk
      by_cases h12 : k' = 1 ∨ k' = 2
      · have HK := Lib.hid h12
        have FIN := Lib.hid (show (n = n') ↔ P from ⟨fun h => EQ.out.mpr ⟨rfl, fun _ => h, fun h3 => by omega, fun h1 h2 _ => by omega⟩, fun h => (EQ.out.mp h).2.1 HK.out⟩)
        rcases h12 with h1 | h2
        · have h1' : (k' == 1) = true := by simpa using h1
          clear h1
          go_enter Tryd.func16, Tryd.ntmps16
          go_wp2_with fail
          refine (order_any n n' _).mono ?_
          rintro e w5 ⟨⟨z, rfl, hz, hz3, hz4⟩, h5⟩
          have HZ := Lib.hid (show z = 0 ↔ P from hz.trans FIN.out)
          have H5 := Lib.hid (BX.out.trans (h5.mono BX.out.size))
          clear hz h5
          go_wp2_with fail
          go_ret
          exact ⟨⟨z, rfl, HZ.out, hz3, hz4⟩, H5.out⟩
        · have h1' : (k' == 1) = false := by simp [h2]
          have h2' : (k' == 2) = true := by simpa using h2
          clear h2
          go_enter Tryd.func16, Tryd.ntmps16
          go_wp2_with fail
          refine (order_any n n' _).mono ?_
          rintro e w5 ⟨⟨z, rfl, hz, hz3, hz4⟩, h5⟩
          have HZ := Lib.hid (show z = 0 ↔ P from hz.trans FIN.out)
          have H5 := Lib.hid (BX.out.trans (h5.mono BX.out.size))
          clear hz h5
          go_wp2_with fail
          go_ret
          exact ⟨⟨z, rfl, HZ.out, hz3, hz4⟩, H5.out⟩
      · have h1' : (k' == 1) = false := by simpa using fun h => h12 (.inl h)
        have h2' : (k' == 2) = false := by simpa using fun h => h12 (.inr h)
        have K12 := Lib.hid h12
        clear h12
        by_cases h3 : k' = 3
        · have h3' : (k' == 3) = true := by simpa using h3
          have HK := Lib.hid h3
          clear h3
          have FIN := Lib.hid (show (s = s') ↔ P from ⟨fun h => EQ.out.mpr ⟨rfl, fun h => absurd h K12.out, fun _ => h, fun _ _ h => absurd HK.out h⟩, fun h => (EQ.out.mp h).2.2.1 HK.out⟩)
          go_enter Tryd.func16, Tryd.ntmps16
          go_wp2_with fail
          refine (texts_any s s' _).mono ?_
          rintro e w5 ⟨⟨z, rfl, hz, hz3, hz4⟩, h5⟩
          have HZ := Lib.hid (show z = 0 ↔ P from hz.trans FIN.out)
          have H5 := Lib.hid (BX.out.trans (h5.mono BX.out.size))
          clear hz h5
          go_wp2_with fail
          go_ret
          exact ⟨⟨z, rfl, HZ.out, hz3, hz4⟩, H5.out⟩
        · have h3' : (k' == 3) = false := by simpa using h3
          have FIN := Lib.hid (show (m = m' ∧ s = s' ∧ ∀ i, i < m → eqT (a i) (a' i)) ↔ P from ⟨fun h => EQ.out.mpr ⟨rfl, fun h => absurd h K12.out, fun h => absurd h h3, fun _ _ _ => h⟩, fun h => (EQ.out.mp h).2.2.2 (fun h => K12.out (.inl h)) (fun h => K12.out (.inr h)) h3⟩)
          clear h3
          by_cases hmm : m = m'
          · subst hmm
            have hmn : ((m : Int) != (m : Int)) = false := by simp
            by_cases hss : s = s'
            · have hsn : (!s.toList == s'.toList) = false := by rw [hss]; simp
              have HS := Lib.hid hss
              clear hss
              have B0 := Lib.hid BX.out
              go_enter Tryd.func16, Tryd.ntmps16
              go_wp2_with fail
              go_loopw [5, 6] (fun iv _ wr => ∃ i : Nat, iv = .int .i64 (i : Int) ∧ i ≤ m ∧ (∀ q, q < i → eqT (a q) (a' q)) ∧ Below w.heap.size w wr ∧ wr.heap[w.heap.size]? = some (.cells #[.int .i64 k', .int .i64 n, .string s, .slice A m c] 24 (0, 0)) ∧ wr.heap[w.heap.size + 1]? = some (.cells #[.int .i64 k', .int .i64 n', .string s', .slice A' m c'] 24 (0, 0))) (fun iv _ _ => m - (intOf iv).toNat)
              case atStart => exact ⟨0, rfl, Nat.zero_le _, fun q hq => absurd hq (by omega), BX.out, (Below.heap_alloc _ _ _ (by simp)).trans (heap_alloc_new _ _), (congrArg _ (by simp)).trans (heap_alloc_new _ _)⟩
              case round =>
                obtain ⟨i, rfl, hi, hq, hb, hb0, hb1⟩ := hrel
                have HQ := Lib.hid hq
                have HB := Lib.hid hb
                have X0 := Lib.hid hb0
                have X1 := Lib.hid hb1
                obtain ⟨x0, x1, x2, x3⟩ := box4 hb0
                obtain ⟨y0, y1, y2, y3⟩ := box4 hb1
                have hl0 := heap_lt hb0
                have hl1 := heap_lt hb1
                clear hq hb hb0 hb1
                by_cases him : i < m
                · have him' : (i : Int) < (m : Int) := by omega
                  obtain ⟨b, cs, f, rfl, hSb, hbb, hcell⟩ := HX.out (by omega)
                  obtain ⟨b', cs', f', rfl, hSb', hbb', hcell'⟩ := HX'.out (by omega)
                  obtain ⟨t0, t1, t2, t3, c0, c1, c2, c3, ta⟩ := hcell i him
                  obtain ⟨u0, u1, u2, U0, um, uc, he⟩ := ta.agg
                  injection he with he
                  simp only [Array.mk.injEq, List.cons.injEq, and_true] at he
                  obtain ⟨rfl, rfl, rfl, rfl⟩ := he
                  obtain ⟨t0, t1, t2, t3, d0, d1, d2, d3, tb⟩ := hcell' i him
                  obtain ⟨v0, v1, v2, V0, vm, vc, he⟩ := tb.agg
                  injection he with he
                  simp only [Array.mk.injEq, List.cons.injEq, and_true] at he
                  obtain ⟨rfl, rfl, rfl, rfl⟩ := he
                  have hbw := (HB.out.block b (heap_lt hbb)).trans hbb
                  have hbw' := (HB.out.block b' (heap_lt hbb')).trans hbb'
                  have hbl := heap_lt hbw
                  have hbl' := heap_lt hbw'
                  have KP := Lib.hid (show ∀ w', Below wr.heap.size wr w' → w'.cell? ⟨w.heap.size, 3, none⟩ = some (.slice (some ⟨b, 0, none⟩) m c) ∧ w'.cell? ⟨w.heap.size + 1, 3, none⟩ = some (.slice (some ⟨b', 0, none⟩) m c') ∧ w'.cell? ⟨b, i * 4, none⟩ = some (.int .i64 u0) ∧ w'.cell? ⟨b, i * 4 + 1, none⟩ = some (.int .i64 u1) ∧ w'.cell? ⟨b, i * 4 + 2, none⟩ = some (.string u2) ∧ w'.cell? ⟨b, i * 4 + 3, none⟩ = some (.slice U0 um uc) ∧ w'.cell? ⟨b', i * 4, none⟩ = some (.int .i64 v0) ∧ w'.cell? ⟨b', i * 4 + 1, none⟩ = some (.int .i64 v1) ∧ w'.cell? ⟨b', i * 4 + 2, none⟩ = some (.string v2) ∧ w'.cell? ⟨b', i * 4 + 3, none⟩ = some (.slice V0 vm vc) from fun w' hw => by
                    have r := fun (j : Nat) => (hw.cell (p := ⟨b, j, none⟩) hbl).trans (cell_of_row wr b j _ _ _ hbw)
                    have r' := fun (j : Nat) => (hw.cell (p := ⟨b', j, none⟩) hbl').trans (cell_of_row wr b' j _ _ _ hbw')
                    rw [Nat.mul_comm 4 i] at c0 c1 c2 c3 d0 d1 d2 d3
                    exact ⟨(hw.cell (p := ⟨w.heap.size, 3, none⟩) hl0).trans x3, (hw.cell (p := ⟨w.heap.size + 1, 3, none⟩) hl1).trans y3, (r _).trans c0, (r _).trans c1, (r _).trans c2, (r _).trans c3, (r' _).trans d0, (r' _).trans d1, (r' _).trans d2, (r' _).trans d3⟩)
                  have b0 := (Below.refl wr.heap.size wr).drew
                  have CI := Lib.hid (IH.out i (a' i) (HT.out.2 i him) (HU.out.2 i him) _ _ wr.drew S S' ((ta.below (w' := wr) HB.out).below b0) ((tb.below (w' := wr) HB.out).below b0))
                  obtain ⟨Q, hQ⟩ : ∃ Q, eqT (a i) (a' i) = Q := ⟨_, rfl⟩
                  rw [hQ] at CI
                  have HQQ := Lib.hid hQ
                  clear hcell hcell' c0 c1 c2 c3 d0 d1 d2 d3 ta tb hbb hbb' hbw hbw' x0 x1 x2 y0 y1 y2 hQ
                  go_wp2_with fail
                  go_region_held3 (fun w' => w'.cell? ⟨w.heap.size, 3, none⟩ = some (.slice (some ⟨b, 0, none⟩) m c) ∧ w'.cell? ⟨w.heap.size + 1, 3, none⟩ = some (.slice (some ⟨b', 0, none⟩) m c') ∧ w'.cell? ⟨b, i * 4, none⟩ = some (.int .i64 u0) ∧ w'.cell? ⟨b, i * 4 + 1, none⟩ = some (.int .i64 u1) ∧ w'.cell? ⟨b, i * 4 + 2, none⟩ = some (.string u2) ∧ w'.cell? ⟨b, i * 4 + 3, none⟩ = some (.slice U0 um uc) ∧ w'.cell? ⟨b', i * 4, none⟩ = some (.int .i64 v0) ∧ w'.cell? ⟨b', i * 4 + 1, none⟩ = some (.int .i64 v1) ∧ w'.cell? ⟨b', i * 4 + 2, none⟩ = some (.string v2) ∧ w'.cell? ⟨b', i * 4 + 3, none⟩ = some (.slice V0 vm vc))
                    (first | (with_reducible exact KP.out _ b0) | (with_reducible exact KP.out _ b5))
                    (((with_reducible refine CI.out.mono ?_); rintro e w5 ⟨⟨z, rfl, hz, hz3, hz4⟩, h5⟩; have b5 := b0.trans h5))
                  have B5 := Lib.hid b5
                  have HZ := Lib.hid hz
                  have X05 := Lib.hid ((b5.block _ hl0).trans X0.out)
                  have X15 := Lib.hid ((b5.block _ hl1).trans X1.out)
                  have BW5 := Lib.hid (HB.out.trans (b5.mono HB.out.size))
                  clear hz h5 b5 b0 x3 y3
                  cases hz0 : (z != 0)
                  · have HE := Lib.hid (show eqT (a i) (a' i) from by rw [HQQ.out]; exact HZ.out.mp (by simpa using hz0))
                    go_wp2_with fail
                    go_roundw
                    case rel => exact ⟨i + 1, by go_num, by omega, fun q hq => by
                      rcases Nat.lt_or_ge q i with h | h
                      · exact HQ.out q h
                      · obtain rfl : q = i := by omega
                        exact HE.out, BW5.out, X05.out, X15.out⟩
                    case measure => simp [intOf]; omega
                  · have HE := Lib.hid (show z = 0 ↔ P from ⟨fun h => absurd h (by simpa using hz0), fun h => HZ.out.mpr (by rw [← HQQ.out]; exact (FIN.out.mpr h).2.2 i him)⟩)
                    go_wp2_with fail
                    go_ret
                    exact ⟨⟨z, rfl, HE.out, hz3, hz4⟩, BW5.out⟩
                · obtain rfl : i = m := by omega
                  have HP := Lib.hid (FIN.out.mp ⟨by trivial, HS.out, HQ.out⟩)
                  go_wp2_with fail
                  go_ret
                  exact ⟨⟨0, rfl, ⟨fun _ => HP.out, fun _ => rfl⟩, by omega, by omega⟩, HB.out⟩
            · have hsn : (!s.toList == s'.toList) = true := by
                simp only [Bool.not_eq_true', beq_eq_false_iff_ne]
                exact fun e => hss (bytes_eq e)
              have HS := Lib.hid hss
              clear hss
              go_enter Tryd.func16, Tryd.ntmps16
              go_wp2_with fail
              refine (texts_any s s' _).mono ?_
              rintro e w5 ⟨⟨z, rfl, hz, hz3, hz4⟩, h5⟩
              have HZ := Lib.hid (show z = 0 ↔ P from ⟨fun h => absurd (hz.mp h) HS.out, fun h => absurd (FIN.out.mpr h).2.1 HS.out⟩)
              have H5 := Lib.hid (BX.out.trans (h5.mono BX.out.size))
              clear hz h5
              go_wp2_with fail
              go_ret
              exact ⟨⟨z, rfl, HZ.out, hz3, hz4⟩, H5.out⟩
          · have hmn : ((m : Int) != (m' : Int)) = true := by simp; omega
            have HM := Lib.hid hmm
            clear hmm
            go_enter Tryd.func16, Tryd.ntmps16
            go_wp2_with fail
            refine (order_any (m : Int) (m' : Int) _).mono ?_
            rintro e w5 ⟨⟨z, rfl, hz, hz3, hz4⟩, h5⟩
            have HZ := Lib.hid (show z = 0 ↔ P from ⟨fun h => absurd (by have := hz.mp h; omega) HM.out, fun h => absurd (FIN.out.mpr h).1 HM.out⟩)
            have H5 := Lib.hid (BX.out.trans (h5.mono BX.out.size))
            clear hz h5
            go_wp2_with fail
            go_ret
            exact ⟨⟨z, rfl, HZ.out, hz3, hz4⟩, H5.out⟩
    · have hkk : (k != k') = true := by simpa using hk
      have HK := Lib.hid hk
      clear hk
      go_enter Tryd.func16, Tryd.ntmps16
      go_wp2_with fail
      refine (order_any k k' _).mono ?_
      rintro e w5 ⟨⟨z, rfl, hz, hz3, hz4⟩, h5⟩
      have HZ := Lib.hid (show z = 0 ↔ P from ⟨fun h => absurd (hz.mp h) HK.out, fun h => absurd (EQ.out.mp h).1 HK.out⟩)
      have H5 := Lib.hid (BX.out.trans (h5.mono BX.out.size))
      clear hz h5
      go_wp2_with fail
      go_ret
      exact ⟨⟨z, rfl, HZ.out, hz3, hz4⟩, H5.out⟩
end Go.Proofs.YtlgeepjlnjlgdaaDoor
