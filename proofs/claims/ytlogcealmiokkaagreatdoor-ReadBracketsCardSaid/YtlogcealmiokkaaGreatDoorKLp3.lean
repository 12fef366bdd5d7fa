/- The program's lexer: 'skip'. -/
import Derived.Test.YtlogcealmiokkaaGreatDoorKLp0
import Derived.Test.YtlogcealmiokkaaGreatDoorKLp2
import Derived.WalkLawsBesides
namespace Go.Proofs.YtlogcealmiokkaaGreatDoor
open Go.RowKit
def wrongE (p : Nat) (e : Int) : PanicEntry := { v := .iface 64 (.agg #[.int .i64 (p : Int), .int .i64 e]), recovered := false }
theorem of_blank : ∀ n : Nat, n < 256 → (ofN n == 5) = blankB n := by decide +kernel
theorem ext_ext (s : ByteArray) (a b : Nat) : ((s.extract a s.size).extract b (s.extract a s.size).size).data.toList = (s.extract (a + b) s.size).data.toList := by
 rw [list_rest (s.extract a s.size) b, list_rest, list_rest, List.drop_drop]
def SkipQ (s : ByteArray) (X : Nat) (v : Value) (w : World) (r : Nat × Bool) (e : Ending) (w' : World) : Prop :=
 (if r.2 then e = .returned (.tuple #[]) ∧ Sc w' X s r.1 v else e = .panicked [wrongE r.1 31]) ∧ OnX X w w'
set_option maxHeartbeats 8000000 in
set_option maxRecDepth 100000 in
theorem skip_any (s : ByteArray) (hs : s.size ≤ 4096) {w : World} {X k : Nat} {v : Value} (h : Sc w X s k v) (hk : k ≤ s.size) {mx : Int} (hX0 : 1 < X) (hmx : w.cell? ⟨1, 0, none⟩ = some (.int .i64 mx)) :
 Calls Tryz.prog 27 #[.pointer (some ⟨X, 0, none⟩)] w fun e w' => SkipQ s X v w (betN s k) e w' := by
 have HS := Lib.hid h
 have HMX := Lib.hid hmx
 have hX := h.lt
 obtain ⟨x0, x1, x2, xf⟩ := h.cells
 clear h hmx
 go_enter Tryz.func27, Tryz.ntmps27
 go_wp2_with fail
 go_step3
 go_wp2_with fail
 go_step3
 go_wp2_with fail
 go_loopg [] (s.size - k) (fun g wr => ∃ j, j + g = s.size ∧ betN s k = betN s j ∧ Sc wr X s j v ∧ OnX X w wr)
 case atStart => exact ⟨k, by omega, rfl, HS.out, OnX.refl _ _⟩
 case round =>
  obtain ⟨j, hjg, hr, hsc, hon⟩ := hrel
  have HR := Lib.hid hr
  have SC := Lib.hid hsc
  have ON := Lib.hid hon
  have hXr := hsc.lt
  have MX := Lib.hid (hon.cell (p := ⟨1, 0, none⟩) (by show (1 : Nat) ≠ X; omega) HMX.out)
  obtain ⟨y0, y1, y2, yf⟩ := hsc.cells
  clear hr hsc hon x0 x1 x2 xf
  by_cases hj : j < s.size
  ·have hj' : (j : Int) < (s.size : Int) := by omega
   have hj2 : (j : Int) ≤ (s.size : Int) := by omega
   have HE := Lib.hid (HR.out.trans (betN_eq hj))
   obtain ⟨rest, hrest⟩ : ∃ rest, s.extract j s.size = rest := ⟨_, rfl⟩
   have hrs : 0 < rest.size := by rw [← hrest, ByteArray.size_extract]; omega
   have hrn : rest.size = s.size - j := by rw [← hrest, ByteArray.size_extract]; omega
   have hb0 : (rest[0]'hrs).toNat = bn s j := by rw [bn_eq, ← hrest, bn_extract s j s.size (by omega)]; rfl
   have CO := Lib.hid (fun W => of_any (bn s j) (bn_lt s j) W)
   have HRS := Lib.hid hrest
   have HRN := Lib.hid hrn
   clear HR hrest hrn
   have s1 := SC.out.at_ (j + 1)
   rw [show ((j + 1 : Nat) : Int) = (j : Int) + 1 from by omega] at s1
   have S1 := Lib.hid s1
   clear s1
   obtain ⟨cv, hcv⟩ : ∃ cv, cv = ofN (bn s j) := ⟨_, rfl⟩
   rw [← hcv] at CO
   have hbl := of_blank (bn s j) (bn_lt s j)
   rw [← hcv] at hbl
   clear hcv
   go_wp2_with fail
   go_region
   go_wp2_with fail
   go_region
   rw [HRS.out]
   cases hb : blankB (bn s j)
   case true =>
    have HB := Lib.hid (show betN s k = betN s (j + 1) by rw [HE.out, hb]; rfl)
    rw [hb] at hbl
    clear HE hb
    go_wp2_with fail
    refine (CO.out _).mono ?_
    rintro e w1 ⟨rfl, rfl⟩
    go_wp2_with fail
    go_roundg (gk - 1)
    case measure => omega
    case rel => exact ⟨j + 1, by omega, HB.out, S1.out.1, (ON.out.trans S1.out.2).drew.drew⟩
   rw [hb] at hbl
   have HBL := Lib.hid hb
   clear hb
   go_wp2_with fail
   refine (CO.out _).mono ?_
   rintro e w1 ⟨rfl, rfl⟩
   clear CO
   cases h37 : ((bn s j : Int) == 37)
   case true =>
    have HB := Lib.hid (show betN s k = betN s (lineN s j) by rw [HE.out, HBL.out, h37]; rfl)
    have CI := Lib.hid (fun W => Tryz.strings_IndexByte rest 10 W)
    have hI := idx_line s j (by omega)
    rw [HRS.out] at hI
    obtain ⟨vn, hvn⟩ : ∃ vn, Lib.indexByte rest.data.toList 10 = vn := ⟨_, rfl⟩
    rw [hvn] at hI
    have CI := Lib.hid (show ∀ W, Calls Tryz.prog 48 #[.string rest, .int .u8 10] W fun e w' => e = .returned (.int .i64 vn) ∧ w' = W from fun W => by rw [← hvn]; exact CI.out W)
    have hlg := line_gt hj h37
    clear HE hvn
    have H37 := Lib.hid h37
    rcases hI with ⟨hneg, hl⟩ | ⟨n, rfl, hl, hln⟩
    ·have HL := Lib.hid hl
     clear hl
     have s2 := SC.out.at_ s.size
     rw [show ((s.size : Nat) : Int) = (j : Int) + (rest.size : Int) from by have := HRN.out; omega] at s2
     have S2 := Lib.hid s2
     clear s2
     have hw : IntKind.i64.wrap ((j : Int) + (rest.size : Int)) = (j : Int) + (rest.size : Int) := by have := HRN.out; rw [IntKind.wrap_i64]; omega
     go_wp2_with fail
     refine (CI.out _).mono ?_
     rintro e w1 ⟨rfl, rfl⟩
     clear CI
     go_wp2_with fail
     go_roundg 0
     case measure => omega
     case rel => exact ⟨s.size, by omega, by rw [HB.out, HL.out], S2.out.1, (ON.out.trans S2.out.2).drew.drew⟩
    ·have HL := Lib.hid hl
     have hjn : j < j + n := by omega
     clear hl hlg
     have s2 := SC.out.at_ (j + n)
     rw [show ((j + n : Nat) : Int) = (j : Int) + (n : Int) from by omega] at s2
     have S2 := Lib.hid s2
     clear s2
     have hw : IntKind.i64.wrap ((j : Int) + (n : Int)) = (j : Int) + (n : Int) := by rw [IntKind.wrap_i64]; omega
     go_wp2_with fail
     refine (CI.out _).mono ?_
     rintro e w1 ⟨rfl, rfl⟩
     clear CI
     go_wp2_with fail
     go_roundg (gk - n)
     case measure => omega
     case rel => exact ⟨j + n, by omega, by rw [HB.out, HL.out], S2.out.1, (ON.out.trans S2.out.2).drew.drew⟩
   have CP := Lib.hid (show ∀ W, Calls Tryz.prog 49 #[.string rest, .string ⟨#[47, 42]⟩] W fun e w' => e = .returned (.bool (twoB s j 47 42)) ∧ w' = W from fun W => by
    have e : Lib.hasPrefix rest.data.toList [47, 42] = twoB s j 47 42 := by have h := has_two s j 47 42; rw [HRS.out] at h; exact h
    rw [← e]; exact Tryz.strings_HasPrefix rest ⟨#[47, 42]⟩ W)
   cases h2 : twoB s j 47 42
   case false =>
    have HB := Lib.hid (show betN s k = (j, true) by rw [HE.out, HBL.out, h37, h2]; rfl)
    rw [h2] at CP
    clear HE
    go_wp2_with fail
    refine (CP.out _).mono ?_
    rintro e w1 ⟨rfl, rfl⟩
    clear CP
    go_wp2_with fail
    rw [Exit.noGoto_normal]
    go_end0
    rw [HB.out]
    exact ⟨by rw [if_pos rfl]; exact ⟨rfl, SC.out⟩, ON.out.drew.drew⟩
   have hj2l := twoB_lt h2
   have HB := Lib.hid (show betN s k = (if endN s (j + 2) < s.size then betN s (endN s (j + 2) + 2) else (j, false)) by rw [HE.out, HBL.out, h37, h2]; rfl)
   rw [h2] at CP
   clear HE
   have hI := idx_end s (j + 2) (by omega)
   rw [← ext_ext s j 2, HRS.out] at hI
   obtain ⟨vn, hvn⟩ : ∃ vn, Lib.index (rest.extract 2 rest.size).data.toList [42, 47] = vn := ⟨_, rfl⟩
   rw [hvn] at hI
   have CI := Lib.hid (show ∀ W, W.cell? ⟨1, 0, none⟩ = some (.int .i64 mx) → Calls Tryz.prog 50 #[.string (rest.extract 2 rest.size), .string ⟨#[42, 47]⟩] W fun e w' => e = .returned (.int .i64 vn) ∧ w' = W from fun W hW => by
    rw [← hvn]; exact Tryz.strings_Index (rest.extract 2 rest.size) ⟨#[42, 47]⟩ mx W (by have := HRN.out; rw [ByteArray.size_extract]; omega) hW)
   clear hvn
   have hr2 : 2 ≤ rest.size := by have := HRN.out; omega
   rcases hI with ⟨hneg, hl⟩ | ⟨n, rfl, hl, hln⟩
   ·have HL := Lib.hid (show betN s k = (j, false) by rw [HB.out, hl, if_neg (Nat.lt_irrefl _)])
    clear HB hl
    go_wp2_with fail
    refine (CP.out _).mono ?_
    rintro e w1 ⟨rfl, rfl⟩
    clear CP
    go_wp2_with fail
    refine (CI.out _ (by exact MX.out)).mono ?_
    rintro e w1 ⟨rfl, rfl⟩
    clear CI
    go_wp2_with fail
    refine ⟨rfl, ?_⟩
    rw [HL.out]
    exact ⟨by rw [if_neg (show ¬ (j, false).2 = true from fun h => by cases h)]; rfl, ON.out.drew.drew⟩
   ·have HL := Lib.hid (show betN s k = betN s (j + 2 + n + 2) by rw [HB.out, hl, if_pos hln])
    have h4 : j + (n + 4) ≤ s.size := by
     have h5 := endN_two (s := s) (j := j + 2) (by rw [hl]; exact hln)
     rw [hl] at h5
     have := twoB_lt h5
     omega
    clear HB hl
    have s2 := SC.out.at_ (j + (n + 4))
    rw [show ((j + (n + 4) : Nat) : Int) = (j : Int) + ((n : Int) + 4) from by omega] at s2
    have S2 := Lib.hid s2
    clear s2
    have hw : IntKind.i64.wrap ((j : Int) + ((n : Int) + 4)) = (j : Int) + ((n : Int) + 4) := by rw [IntKind.wrap_i64]; omega
    have hw4 : IntKind.i64.wrap ((n : Int) + 4) = (n : Int) + 4 := by rw [IntKind.wrap_i64]; omega
    go_wp2_with fail
    refine (CP.out _).mono ?_
    rintro e w1 ⟨rfl, rfl⟩
    clear CP
    go_wp2_with fail
    refine (CI.out _ (by exact MX.out)).mono ?_
    rintro e w1 ⟨rfl, rfl⟩
    clear CI
    go_wp2_with fail
    go_roundg (gk - (n + 4))
    case measure => omega
    case rel => exact ⟨j + (n + 4), by omega, by rw [HL.out]; congr 1; omega, S2.out.1, (ON.out.trans S2.out.2).drew.drew⟩
  ·obtain rfl : j = s.size := by omega
   have HB := Lib.hid (HR.out.trans (betN_end (Nat.le_refl _)))
   go_wp2_with fail
   go_region
   go_wp2_with fail
   rw [Exit.noGoto_normal]
   go_end0
   rw [HB.out]
   exact ⟨by rw [if_pos rfl]; exact ⟨rfl, SC.out⟩, ON.out.drew⟩
end Go.Proofs.YtlogcealmiokkaaGreatDoor
