/- The walk of WriteTerms. -/
import Derived.Test.YtiefbdblefliaaaDoorWrn
import Derived.Test.YtiefbdblefliaaaDoorLight
import Derived.Test.YtiefbdblefliaaaDoorOpenT
namespace Go.Proofs.YtiefbdblefliaaaDoor
open Go.RowKit

theorem thin_fit : ∀ {t : T}, t.thin → t.i64 → t.fit
  | .nil, _, _ => trivial
  | .mk _ _ _ _ _, h, h' => ⟨h'.1, by have := h.1; omega, fun i hi => thin_fit (h.2 i hi) (h'.2 i hi)⟩
theorem text_of (nm : List ByteArray) (t : T) : ∃ s, TextOf nm t s := by
  by_cases h : t.goodW
  · exact ⟨_, .inl ⟨h, rfl⟩⟩
  · exact ⟨_, .inr ⟨h, rfl⟩⟩
theorem nm_fix {nm : List ByteArray} {t : T} {s : ByteArray} (h : TextOf nm t s) {w w' : World} {e : Ending} (hp : NmP w nm t e w') : e = .returned (.string s) ∧ Below w.heap.size w w' := by
  obtain ⟨s', rfl, h', hb⟩ := hp
  exact ⟨by rw [h.uniq h'.out], hb⟩
theorem good_of (t : T) : ∃ g : Bool, (g = true ↔ t.goodW) := by
  by_cases h : t.goodW
  · exact ⟨true, by simp [h]⟩
  · exact ⟨false, by simp [h]⟩
theorem good_fix {t : T} {g : Bool} (h : g = true ↔ t.goodW) {w w' : World} {e : Ending} (hp : (∃ b, e = .returned (.bool b) ∧ Hid (b = true ↔ t.goodW)) ∧ Below w.heap.size w w') : e = .returned (.bool g) ∧ Below w.heap.size w w' := by
  obtain ⟨⟨b, rfl, hb⟩, h2⟩ := hp
  refine ⟨?_, h2⟩
  have : b = g := Bool.eq_iff_iff.2 (hb.out.trans h.symm)
  rw [this]
set_option maxRecDepth 100000 in
set_option maxHeartbeats 8000000 in
theorem writeterms_any {t : T} {v nv : Value} {nm : List ByteArray} (w : World) (hv : TIn w w.heap.size t v) (hi : t.i64) (hnv : NmIn w w.heap.size nm nv) (hnl : (nm.length : Int) ≤ 9223372036854775807) (hT : TabX w) :
    Calls Tryd.prog 6 #[v, nv] w fun e w' => e = .returned (.bool true) ∧ Below w.heap.size w w' := by
  have hg := GT.of hv
  obtain ⟨k', n', s', A, m', c, rfl⟩ := hg.agg
  have HV := Lib.hid hg
  have HI := Lib.hid hi
  have NM := Lib.hid hnv
  have HTX := Lib.hid hT
  obtain ⟨nA, nc, rfl, hnx⟩ := hnv
  have NX := Lib.hid hnx
  have BX := Lib.hid (belA (Below.refl w.heap.size w) (Obj.cells #[.int .i64 k', .int .i64 n', .string s', .slice A m' c] 24))
  have XB := Lib.hid (heap_alloc_new w (Obj.cells #[.int .i64 k', .int .i64 n', .string s', .slice A m' c] 24))
  have CL := Lib.hid (light_any t 4096 w.heap.size _ (w.alloc (Obj.cells #[.int .i64 k', .int .i64 n', .string s', .slice A m' c] 24)) (by omega) (by omega) (hg.below BX.out))
  clear hv hi hT hnx hg
  go_enter Tryd.func6, Tryd.ntmps6
  go_wp2_with fail
  refine CL.out.mono ?_
  rintro e w1 ⟨⟨r, rfl, hr⟩, hb1⟩
  have B1 := Lib.hid (BX.out.trans (hb1.mono BX.out.size))
  have X1 := Lib.hid ((hb1.block w.heap.size (by simp)).trans XB.out)
  have HR := Lib.hid hr.out
  clear hb1 hr CL
  by_cases hr0 : r < 0
  · go_wp2_with fail
    go_ret
    exact ⟨rfl, B1.out⟩
  by_cases h256 : (256 : Int) < (nm.length : Int)
  · go_wp2_with fail
    go_ret
    exact ⟨rfl, B1.out⟩
  have HTN := Lib.hid (show t.nodes ≤ 4096 ∧ t.fit from by
    rcases HR.out with h | ⟨h1, h2, h3⟩
    · omega
    · exact ⟨by omega, thin_fit h3 HI.out⟩)
  go_wp2_with fail
  go_loopw [5, 6] (fun cv iv wr => ∃ (n : Int) (i : Nat), cv = .int .i64 n ∧ iv = .int .i64 (i : Int) ∧ i ≤ nm.length ∧ 0 ≤ n ∧ n ≤ 5000000 ∧ Hid (∀ (q : Nat) (h : q < nm.length), q < i → ((nm[q]'h).size : Int) ≤ n ∨ 1048576 ≤ n) ∧ w1 = wr) (fun _ iv _ => nm.length - (intOf iv).toNat)
  case atStart => exact ⟨0, 0, rfl, rfl, Nat.zero_le _, by omega, by omega, Lib.hid (fun q _ h => absurd h (by omega)), rfl⟩
  case round =>
    obtain ⟨n, i, rfl, rfl, hi, hn0, hn5, hq, rfl⟩ := hrel
    by_cases hn4 : n ≤ 4096
    · by_cases him : i < nm.length
      · have him' : (i : Int) < (nm.length : Int) := by omega
        obtain ⟨g, o, rfl, hgl, hc⟩ := NX.out (by omega)
        have h0 := (B1.out.cell (p := ⟨g, o + i, none⟩) hgl).trans (hc i him)
        have hgl1 : g < w1.heap.size := by have := B1.out.size; omega
        obtain ⟨x, hx⟩ : ∃ x, nm[i]'him = x := ⟨_, rfl⟩
        rw [hx] at h0
        have HX := Lib.hid hx
        clear hc hx
        obtain ⟨d, hd, hd0, hd1, hd2⟩ : ∃ d : Int, min (x.size : Int) 1048576 = d ∧ 0 ≤ d ∧ d ≤ 1048576 ∧ ((x.size : Int) ≤ d ∨ 1048576 ≤ d) := ⟨min (x.size : Int) 1048576, rfl, by omega, by omega, by omega⟩
        have HQ := Lib.hid (show ∀ (q : Nat) (h : q < nm.length), q < i + 1 → ((nm[q]'h).size : Int) ≤ n + d ∨ 1048576 ≤ n + d from fun q h hqi => by
          rcases Nat.lt_or_ge q i with h1 | h1
          · have := hq.out q h h1
            omega
          · obtain rfl : q = i := by omega
            rw [HX.out]
            omega)
        go_wp2_with fail
        go_roundw
        case rel => exact ⟨n + d, i + 1, by go_num, by go_num, him, by omega, by omega, HQ, trivial⟩
        case measure => simp [intOf]; omega
      · obtain rfl : i = nm.length := by omega
        have HNF := Lib.hid (show NamesFit nm from ⟨by omega, fun x hx => by
          obtain ⟨q, hq', rfl⟩ := List.mem_iff_getElem.1 hx
          have := hq.out q hq' hq'
          omega⟩)
        obtain ⟨s0, h0⟩ := text_of [] t
        obtain ⟨s1, h1⟩ := text_of nm t
        obtain ⟨gd, hgd⟩ := good_of t
        have hs : w.heap.size + 1 ≤ w1.heap.size := heap_lt X1.out
        have G1 := Lib.hid (HV.out.low (Nat.le_refl _) B1.out)
        have N1 := Lib.hid (NM.out.low (Nat.le_refl _) B1.out)
        have T1 := Lib.hid (HTX.out.below B1.out)
        have C1 := Lib.hid (fun (W : World) (k : Below w1.heap.size w1 W) => (pgood_any HTN.out.2.short (by have := HTN.out.1; omega) (G1.out.below k)).mono fun e w' h => good_fix hgd h)
        have C2 := Lib.hid (fun (W : World) (k : Below w1.heap.size w1 W) => (rgood_any HTN.out.2.short (G1.out.below k)).mono fun e w' h => good_fix hgd h)
        have C3 := Lib.hid (fun (W : World) (k : Below w1.heap.size w1 W) => (pwrite_any (by have := HTN.out.1; omega) HTN.out.2 _ _ W (G1.out.below k) (T1.out.below k)).mono fun e w' h => nm_fix h0 h)
        have C4 := Lib.hid (fun (W : World) (k : Below w1.heap.size w1 W) => (rwrite_any (by have := HTN.out.1; omega) HTN.out.2 _ _ W (G1.out.below k)).mono fun e w' h => nm_fix h0 h)
        have C5 := Lib.hid (fun (W : World) (k : Below w1.heap.size w1 W) => (pnamed_any HNF.out (by have := HTN.out.1; omega) HTN.out.2 _ _ _ W (G1.out.below k) (N1.out.low HV.out.sz (k.mono (by omega))) (T1.out.below k)).mono fun e w' h => nm_fix h1 h)
        have C6 := Lib.hid (fun (W : World) (k : Below w1.heap.size w1 W) => (rnamed_any HNF.out (by have := HTN.out.1; omega) HTN.out.2 _ _ _ W (G1.out.below k) (N1.out.low HV.out.sz (k.mono (by omega)))).mono fun e w' h => nm_fix h1 h)
        have KP := Lib.hid (fun (W : World) (k : Below w1.heap.size w1 W) => box4t ((k.block _ (heap_lt X1.out)).trans X1.out))
        have b0 := (Below.refl w1.heap.size w1).drew
        clear h0 h1 hgd hq
        go_wp2_with fail
        go_region_held3 (fun W => W.cell? ⟨w.heap.size, 0, none⟩ = some (.int .i64 k') ∧ W.cell? ⟨w.heap.size, 1, none⟩ = some (.int .i64 n') ∧ W.cell? ⟨w.heap.size, 2, none⟩ = some (.string s') ∧ W.cell? ⟨w.heap.size, 3, none⟩ = some (.slice A m' c))
          (first | (with_reducible exact KP.out _ b0) | (with_reducible exact KP.out _ b1) | (with_reducible exact KP.out _ b2) | (with_reducible exact KP.out _ b3) | (with_reducible exact KP.out _ b4) | (with_reducible exact KP.out _ b5) | (with_reducible exact KP.out _ b6))
          ((first
            | ((with_reducible refine (C1.out _ b0).mono ?_); rintro e w2 ⟨rfl, k⟩; have b1 := b0.trans (k.mono b0.size); clear k)
            | ((with_reducible refine (C2.out _ b1).mono ?_); rintro e w3 ⟨rfl, k⟩; have b2 := b1.trans (k.mono b1.size); clear k)
            | ((with_reducible refine (C3.out _ b2).mono ?_); rintro e w4 ⟨rfl, k⟩; have b3 := b2.trans (k.mono b2.size); clear k)
            | ((with_reducible refine (C4.out _ b3).mono ?_); rintro e w5 ⟨rfl, k⟩; have b4 := b3.trans (k.mono b3.size); clear k)
            | ((with_reducible refine (C5.out _ b4).mono ?_); rintro e w6 ⟨rfl, k⟩; have b5 := b4.trans (k.mono b4.size); clear k)
            | ((with_reducible refine (C6.out _ b5).mono ?_); rintro e w7 ⟨rfl, k⟩; have b6 := b5.trans (k.mono b5.size); clear k)))
        go_wp2_with fail
        go_ret
        exact ⟨rfl, B1.out.trans (b6.mono (by omega))⟩
    · by_cases him : (i : Int) < (nm.length : Int)
      · go_wp2_with fail
        go_ret
        exact ⟨rfl, B1.out⟩
      · go_wp2_with fail
        go_ret
        exact ⟨rfl, B1.out⟩
end Go.Proofs.YtiefbdblefliaaaDoor
