/- The walks through write.variable and write.isList; rows of terms in memory. -/
import Derived.Test.YtiefbdblefliaaaDoorWrB
import Derived.Test.YtiefbdblefliaaaDoorWrr
import Derived.Test.YtiefbdblefliaaaDoorNpp
import Derived.Deep.RegionHeld3
namespace Go.Proofs.YtiefbdblefliaaaDoor
open Go.RowKit

set_option maxRecDepth 100000 in
theorem islist_any (k n : Int) (s : ByteArray) (A : Option Addr) (m c : Nat) (w : World) :
    Calls Tryd.prog 40 #[.agg #[.int .i64 k, .int .i64 n, .string s, .slice A m c]] w fun e w' => e = .returned (.bool (isPr k s m)) ∧ Below w.heap.size w w' := by
  have BX := Lib.hid (belA (Below.refl w.heap.size w) (Obj.cells #[.int .i64 k, .int .i64 n, .string s, .slice A m c] 24))
  cases h1 : (k == 4) with
  | false =>
    have P := Lib.hid (show isPr k s m = false by unfold isPr; rw [h1]; rfl)
    go_enter Tryd.func40, Tryd.ntmps40
    go_wp2_with fail
    go_ret
    exact ⟨by rw [P.out]; rfl, BX.out⟩
  | true =>
    cases h2 : (s.toList == [46]) with
    | false =>
      have P := Lib.hid (show isPr k s m = false by unfold isPr; rw [h1, h2]; rfl)
      go_enter Tryd.func40, Tryd.ntmps40
      go_wp2_with fail
      go_ret
      exact ⟨by rw [P.out]; rfl, BX.out⟩
    | true =>
      have P := Lib.hid (show isPr k s m = ((m : Int) == 2) by unfold isPr; rw [h1, h2]; rfl)
      go_enter Tryd.func40, Tryd.ntmps40
      go_wp2_with fail
      go_ret
      exact ⟨by rw [P.out]; rfl, BX.out⟩
/-- The table of the powers of ten stands, below the writer. -/
def TabB (B : Nat) (w : World) : Prop := ∃ w0, TabX w0 ∧ w0.heap.size ≤ B ∧ Below B w0 w
theorem TabB.tab {B : Nat} {w : World} : TabB B w → TabX w := fun ⟨_, h, hB, hb⟩ => h.below (hb.mono hB)
/-- What stands ahead of all writing. -/
structure We (B S : Nat) (nm : List ByteArray) (nv : Value) (w : World) : Prop where
  tab : TabB B w
  nmi : NmIn w S nm nv
  hS : S ≤ B
theorem We.low {B S : Nat} {nm : List ByteArray} {nv : Value} {w w' : World} (h : We B S nm nv w) (hb : Below B w w') : We B S nm nv w' :=
  ⟨by obtain ⟨w0, h1, h2, h3⟩ := h.tab; exact ⟨w0, h1, h2, h3.trans hb⟩, h.nmi.low h.hS hb, h.hS⟩
theorem We.kw {B S : Nat} {nm : List ByteArray} {nv : Value} {w w' : World} (h : We B S nm nv w) (hb : Kw B w w') : We B S nm nv w' := h.low hb.low
set_option maxRecDepth 100000 in
set_option maxHeartbeats 4000000 in
theorem wvar_any {nm : List ByteArray} (hnm : NamesFit nm) {n : Int} (hn : I64 n) (hn0 : 0 ≤ n) (B b S : Nat) (nv : Value) (l : List UInt8) (w : World) (h : IsW B b nv (Lib.byteCells l) w) (hE : We B S nm nv w) (hl : l.length ≤ 1000000000000) :
    Calls Tryd.prog 37 #[.pointer (some ⟨b, 0, none⟩), .int .i64 n] w fun e w' => WrP B b nv (l ++ nmV nm n) w e w' := by
  have HW := Lib.hid h
  have h2 := h.nm
  have hbl := h.lt
  have hBl := h.le
  have hnl : nm.length ≤ 100000 := hnm.1
  have hr := nmV_len hnm hn
  have HNF := Lib.hid hnm
  have HE := Lib.hid hE
  have hnv := hE.nmi
  have hSB := hE.hS
  obtain ⟨nA, nc, rfl, hnx⟩ := hnv
  have NX := Lib.hid hnx
  have CP := Lib.hid (pprint_any n w.drew hn (hE.tab.tab.below ((Below.refl _ w).drew)))
  have WD := Lib.hid (HW.out.below ((Below.refl w.heap.size w).drew))
  have CW := Lib.hid (fun (s : ByteArray) (hs : s.data.toList = nmV nm n) (W : World) (hi : IsW B b (.slice nA nm.length nc) (Lib.byteCells l) W) => wrb_any B b _ l (nmV nm n) s W hi hs (by omega))
  have h2d : w.drew.cell? ⟨b, 2, none⟩ = some (.slice nA nm.length nc) := h2
  clear h hE hnm
  by_cases hlt : n < (nm.length : Int)
  · obtain ⟨j, rfl⟩ : ∃ j : Nat, n = (j : Int) := ⟨n.toNat, by omega⟩
    have hj : j < nm.length := by omega
    obtain ⟨g, o, rfl, hgS, hcell⟩ := NX.out (by omega)
    have h0 := hcell j hj
    obtain ⟨x, hx⟩ : ∃ x, nm[j]'hj = x := ⟨_, rfl⟩
    rw [hx] at h0
    have h0d : w.drew.cell? ⟨g, o + j, none⟩ = some (.string x) := h0
    have HX := Lib.hid hx
    have KC := Lib.hid (fun (W : World) (k : Kw B w.drew W) => (k.low.cell (p := ⟨g, o + j, none⟩) (by show g < B; omega)).trans h0d)
    clear hcell hx hnx
    cases h1 : (x.toList == []) with
    | true =>
      have E := Lib.hid (nmV_none hj (.inl (by rw [HX.out]; exact h1)))
      obtain ⟨u, hu⟩ : ∃ u : ByteArray, (⟨(Lib.itoa (j : Int)).toArray⟩ : ByteArray) = u := ⟨_, rfl⟩
      have CP2 := CP
      rw [hu] at CP2
      have E2 := Lib.hid (show (⟨#[95]⟩ ++ u : ByteArray).data.toList = nmV nm (j : Int) by rw [cat2, ← hu, E.out]; rfl)
      have C := Lib.hid (CW.out (⟨#[95]⟩ ++ u) E2.out)
      have hul : u.size ≤ 21 := by rw [← hu]; exact Lib.itoa_length_le (j : Int) hn.1 hn.2
      have hcat : ¬ (9223372036854775807 < 1 + u.size) := by omega
      have hcat2 : ¬ (9223372036854775806 < u.size) := by omega
      clear CW hr CP hu
      go_enter Tryd.func37, Tryd.ntmps37
      go_wp2_with fail
      go_region_held3 (fun _ => True)
        (trivial)
        ((first | ((with_reducible refine CP2.out.mono ?_); rintro e w4 ⟨rfl, k4⟩) | ((with_reducible refine (C.out _ (WD.out.below (k4.mono (Nat.le_refl _)))).mono ?_); rintro e w5 ⟨rfl, h5, k5⟩)))
      go_wp2_with fail
      refine bodyPost_ret (v := .tuple #[]) (by simp [results, go_sem]) rfl ?_
      exact ⟨rfl, h5, (Kw.of (((Below.refl _ w).drew).trans k4) hBl).trans k5⟩
    | false =>
      cases h3 : (x.toList == [95]) with
      | true =>
        have E := Lib.hid (nmV_none hj (.inr (by rw [HX.out]; exact h3)))
        obtain ⟨u, hu⟩ : ∃ u : ByteArray, (⟨(Lib.itoa (j : Int)).toArray⟩ : ByteArray) = u := ⟨_, rfl⟩
        have CP2 := CP
        rw [hu] at CP2
        have E2 := Lib.hid (show (⟨#[95]⟩ ++ u : ByteArray).data.toList = nmV nm (j : Int) by rw [cat2, ← hu, E.out]; rfl)
        have C := Lib.hid (CW.out (⟨#[95]⟩ ++ u) E2.out)
        have hul : u.size ≤ 21 := by rw [← hu]; exact Lib.itoa_length_le (j : Int) hn.1 hn.2
        have hcat : ¬ (9223372036854775807 < 1 + u.size) := by omega
        have hcat2 : ¬ (9223372036854775806 < u.size) := by omega
        clear CW hr CP hu
        go_enter Tryd.func37, Tryd.ntmps37
        go_wp2_with fail
        go_region_held3 (fun _ => True)
          (trivial)
          ((first | ((with_reducible refine CP2.out.mono ?_); rintro e w4 ⟨rfl, k4⟩) | ((with_reducible refine (C.out _ (WD.out.below (k4.mono (Nat.le_refl _)))).mono ?_); rintro e w5 ⟨rfl, h5, k5⟩)))
        go_wp2_with fail
        refine bodyPost_ret (v := .tuple #[]) (by simp [results, go_sem]) rfl ?_
        exact ⟨rfl, h5, (Kw.of (((Below.refl _ w).drew).trans k4) hBl).trans k5⟩
      | false =>
        have E := Lib.hid (show x.data.toList = nmV nm (j : Int) by rw [nmV_some hj (by rw [HX.out]; exact h1) (by rw [HX.out]; exact h3), HX.out])
        have C := Lib.hid (CW.out x E.out w.drew WD.out)
        clear CW CP hr
        go_enter Tryd.func37, Tryd.ntmps37
        go_wp2_with fail
        go_region_held3 (fun w' => w'.cell? ⟨b, 2, none⟩ = some (.slice (some ⟨g, o, none⟩) nm.length nc) ∧ w'.cell? ⟨g, o + j, none⟩ = some (.string x))
          (first | (with_reducible exact ⟨h2d, h0d⟩) | (with_reducible exact ⟨h5.nm, KC.out _ k5⟩))
          (((with_reducible refine C.out.mono ?_); rintro e w5 ⟨rfl, h5, k5⟩))
        go_wp2_with fail
        refine bodyPost_ret (v := .tuple #[]) (by simp [results, go_sem]) rfl ?_
        exact ⟨rfl, h5, (Kw.of ((Below.refl _ w).drew) hBl).trans k5⟩
  · clear hnx
    have E := Lib.hid (nmV_far hn0 hlt)
    obtain ⟨u, hu⟩ : ∃ u : ByteArray, (⟨(Lib.itoa n).toArray⟩ : ByteArray) = u := ⟨_, rfl⟩
    have CP2 := CP
    rw [hu] at CP2
    have E2 := Lib.hid (show (⟨#[95]⟩ ++ u : ByteArray).data.toList = nmV nm n by rw [cat2, ← hu, E.out]; rfl)
    have C := Lib.hid (CW.out (⟨#[95]⟩ ++ u) E2.out)
    have hul : u.size ≤ 21 := by rw [← hu]; exact Lib.itoa_length_le n hn.1 hn.2
    have hcat : ¬ (9223372036854775807 < 1 + u.size) := by omega
    have hcat2 : ¬ (9223372036854775806 < u.size) := by omega
    clear CW hr CP hu
    go_enter Tryd.func37, Tryd.ntmps37
    go_wp2_with fail
    go_region_held3 (fun _ => True)
      (trivial)
      ((first | ((with_reducible refine CP2.out.mono ?_); rintro e w4 ⟨rfl, k4⟩) | ((with_reducible refine (C.out _ (WD.out.below (k4.mono (Nat.le_refl _)))).mono ?_); rintro e w5 ⟨rfl, h5, k5⟩)))
    go_wp2_with fail
    refine bodyPost_ret (v := .tuple #[]) (by simp [results, go_sem]) rfl ?_
    exact ⟨rfl, h5, (Kw.of (((Below.refl _ w).drew).trans k4) hBl).trans k5⟩
end Go.Proofs.YtiefbdblefliaaaDoor
