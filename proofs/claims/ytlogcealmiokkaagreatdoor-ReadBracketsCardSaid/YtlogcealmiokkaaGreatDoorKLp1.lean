/- The program's lexer: a byte's class; what 'while' takes. -/
import Derived.Test.YtlogcealmiokkaaGreatDoorKLex4
import Derived.Test.YtlogcealmiokkaaGreatDoorKShelf
import Derived.Deep.RegionLaw
namespace Go.Proofs.YtlogcealmiokkaaGreatDoor
open Go.RowKit
def ofN (c : Int) : Int :=
 if smallB c then 1 else if greatB c then 2 else if digitB c then 3 else if signB c then 4 else if blankB c then 5 else if c == 33 || c == 59 then 6 else if markB c then 7 else if c == 39 then 8 else 0
theorem idx_sign : ∀ n : Nat, n < 256 → decide (0 ≤ Lib.indexByte [43, 45, 42, 47, 92, 94, 60, 62, 61, 58, 46, 63, 64, 35, 36, 38, 126] (n : Int).toNat.toUInt8) = signB (n : Int) := by decide +kernel
theorem idx_mark : ∀ n : Nat, n < 256 → decide (0 ≤ Lib.indexByte [40, 41, 91, 93, 123, 125, 44, 124] (n : Int).toNat.toUInt8) = markB (n : Int) := by decide +kernel
set_option maxRecDepth 100000 in
set_option maxHeartbeats 4000000 in
theorem of_any (n : Nat) (hn : n < 256) (w : World) : Calls Tryz.prog 47 #[.int .u8 (n : Int)] w fun e w' => e = .returned (.int .i64 (ofN n)) ∧ w' = w := by
 have hs := idx_sign n hn
 have hm := idx_mark n hn
 obtain ⟨vs, hvs⟩ : ∃ v, Lib.indexByte [43, 45, 42, 47, 92, 94, 60, 62, 61, 58, 46, 63, 64, 35, 36, 38, 126] (n : Int).toNat.toUInt8 = v := ⟨_, rfl⟩
 obtain ⟨vm, hvm⟩ : ∃ v, Lib.indexByte [40, 41, 91, 93, 123, 125, 44, 124] (n : Int).toNat.toUInt8 = v := ⟨_, rfl⟩
 rw [hvs] at hs
 rw [hvm] at hm
 obtain ⟨c, hc⟩ : ∃ c : Int, c = (n : Int) := ⟨_, rfl⟩
 rw [← hc] at hs hm ⊢
 have CS := Lib.hid (Tryz.strings_IndexByte ⟨#[43, 45, 42, 47, 92, 94, 60, 62, 61, 58, 46, 63, 64, 35, 36, 38, 126]⟩ c w)
 have CM := Lib.hid (Tryz.strings_IndexByte ⟨#[40, 41, 91, 93, 123, 125, 44, 124]⟩ c w)
 have h1 : Lib.indexByte (⟨#[43, 45, 42, 47, 92, 94, 60, 62, 61, 58, 46, 63, 64, 35, 36, 38, 126]⟩ : ByteArray).data.toList c.toNat.toUInt8 = vs := by rw [hc]; exact hvs
 have h2 : Lib.indexByte (⟨#[40, 41, 91, 93, 123, 125, 44, 124]⟩ : ByteArray).data.toList c.toNat.toUInt8 = vm := by rw [hc]; exact hvm
 rw [h1] at CS
 rw [h2] at CM
 clear h1 h2 hvs hvm hc
 have HS := Lib.hid hs
 have HM := Lib.hid hm
 clear hs hm
 go_enter Tryz.func47, Tryz.ntmps47
 go_wp2_with (first | (refine CS.out.mono ?_; rintro e w1 ⟨rfl, rfl⟩) | (refine CM.out.mono ?_; rintro e w1 ⟨rfl, rfl⟩))
 all_goals
  go_ret
  refine ⟨?_, rfl⟩
  refine congrArg (fun x => Ending.returned (Value.int .i64 x)) ?_
  have hs := HS.out.symm
  have hm := HM.out.symm
  unfold ofN
  rw [hs, hm]
  clear HS HM CS CM hs hm
  simp only [beq_iff_eq, beq_eq_false_iff_ne, ne_eq] at *
  simp only [smallB, greatB, digitB, blankB, Bool.and_eq_true, Bool.or_eq_true, decide_eq_true_eq, beq_iff_eq]
  repeat' split
  all_goals first | rfl | (exfalso; omega)
end Go.Proofs.YtlogcealmiokkaaGreatDoor
