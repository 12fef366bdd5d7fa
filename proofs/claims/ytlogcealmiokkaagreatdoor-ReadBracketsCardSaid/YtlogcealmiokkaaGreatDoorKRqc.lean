/- The program's parser: alone. -/
import Derived.Test.YtlogcealmiokkaaGreatDoorKRqb
namespace Go.Proofs.YtlogcealmiokkaaGreatDoor
open Go.RowKit
theorem in_some {nm : ByteArray} {a b c : Int} {is : Bool} (h : (is = true ∧ opIn nm = some (a, b, c)) ∨ (is = false ∧ opIn nm = none ∧ a = 0 ∧ b = 0 ∧ c = 0)) : (opIn nm).isSome = is := by
 rcases h with ⟨rfl, h⟩ | ⟨rfl, h, _⟩ <;> rw [h] <;> rfl
theorem pre_some {nm : ByteArray} {a b : Int} {is : Bool} (h : (is = true ∧ opPre nm = some (a, b)) ∨ (is = false ∧ opPre nm = none ∧ a = 0 ∧ b = 0)) : (opPre nm).isSome = is := by
 rcases h with ⟨rfl, h⟩ | ⟨rfl, h, _⟩ <;> rw [h] <;> rfl
theorem alone_1 {x : Tk} (h : x.k = 1) : aloneP x = ((opIn x.t).isSome && !(opPre x.t).isSome) := by unfold aloneP; rw [if_pos h]
theorem alone_5 {x : Tk} (h : x.k = 5) : aloneP x = (!(x.t.toList == [40]) && !(x.t.toList == [91]) && !(x.t.toList == [123])) := by unfold aloneP; rw [if_neg (by omega), if_pos h]
theorem alone_no {x : Tk} (h : x.k = 2 ∨ x.k = 3 ∨ x.k = 4) : aloneP x = false := by unfold aloneP; rw [if_neg (by omega), if_neg (by omega), if_pos h]
theorem alone_yes {x : Tk} (h : x.k ≠ 1 ∧ x.k ≠ 2 ∧ x.k ≠ 3 ∧ x.k ≠ 4 ∧ x.k ≠ 5) : aloneP x = true := by unfold aloneP; rw [if_neg (by omega), if_neg (by omega), if_neg (by omega)]
set_option maxRecDepth 100000 in
set_option maxHeartbeats 8000000 in
theorem palone_any {c : Rdc} {i : Nat} {ns : List ByteArray} (w : World) (h : Pd w c i ns) (hev : Ev c w) : Calls Tryz.prog 95 #[.pointer (some ⟨c.R, 0, none⟩)] w fun e w' => e = .returned (.bool (aloneP (nx c i))) ∧ Below w.heap.size w w' := by
 have H := Lib.hid h
 have HE := Lib.hid hev
 have hB := h.base
 clear h hev
 have CI := Lib.hid (fun (nm : ByteArray) (W : World) (hf : Frp c w W) => pinfix_any nm W (HE.out.fr hf).ops)
 have CP := Lib.hid (fun (nm : ByteArray) (W : World) (hf : Frp c w W) => pprefix_any nm W (HE.out.fr hf).ops)
 have PK := Lib.hid (ppeek_any _ H.out)
 obtain ⟨x, hx⟩ : ∃ x, nx c i = x := ⟨_, rfl⟩
 rw [hx] at PK ⊢
 clear hx
 go_enter Tryz.func95, Tryz.ntmps95
 go_wp2_with fail
 refine PK.out.mono ?_
 rintro e w1 ⟨rfl, hb1⟩
 have B1 := Lib.hid (hb1.alloc hb1.size (Obj.cells #[.int .i64 x.k, .string x.t, .int .i64 (x.a : Int), .int .i64 (x.b : Int)] 60))
 have F1 := Lib.hid (Frp.of_below B1.out hB)
 have X1 := Lib.hid (heap_alloc_new w1 (Obj.cells #[.int .i64 x.k, .string x.t, .int .i64 (x.a : Int), .int .i64 (x.b : Int)] 60))
 clear hb1 PK
 by_cases k1 : x.k = 1
 ·have b1 : (x.k == 1) = true := by simpa using k1
  have HA := Lib.hid (alone_1 k1)
  clear k1
  go_wp2_with fail
  refine (CI.out x.t _ F1.out).mono ?_
  rintro e w2 ⟨⟨a, b, cc, is, rfl, hr⟩, hb2⟩
  have HS := Lib.hid (in_some hr.out)
  have B2 := Lib.hid (B1.out.trans (hb2.mono B1.out.size))
  have F2 := Lib.hid (Frp.of_below B2.out hB)
  have X2 := Lib.hid ((hb2.block _ (heap_lt X1.out)).trans X1.out)
  obtain ⟨x0, x1, x2, x3⟩ := box4t X2.out
  clear hr hb2
  go_wp2_with fail
  refine (CP.out x.t _ F2.out).mono ?_
  rintro e w3 ⟨⟨a', b', is', rfl, hr⟩, hb3⟩
  have HS2 := Lib.hid (pre_some hr.out)
  have B3 := Lib.hid (B2.out.trans (hb3.mono B2.out.size))
  clear hr hb3
  have HV := Lib.hid (show aloneP x = (is && !is') by rw [HA.out, HS.out, HS2.out])
  cases is with
  | true =>
   cases is'
   all_goals
    go_wp2_with fail
    go_ret
    exact ⟨by rw [HV.out]; rfl, B3.out⟩
  | false =>
   go_wp2_with fail
   go_ret
   exact ⟨by rw [HV.out]; rfl, B3.out⟩
 ·have b1 : (x.k == 1) = false := by simpa using k1
  by_cases k5 : x.k = 5
  ·have b5 : (x.k == 5) = true := by simpa using k5
   have HA := Lib.hid (alone_5 k5)
   obtain ⟨x0, x1, x2, x3⟩ := box4t X1.out
   clear k1 k5
   cases c40 : (x.t.toList == [40]) with
   | true =>
    have d40 : (x.t.toList != [40]) = false := by rw [bne, c40]; rfl
    have HV := Lib.hid (show aloneP x = false by rw [HA.out, c40]; rfl)
    go_wp2_with fail
    go_ret
    exact ⟨by rw [HV.out]; rfl, B1.out⟩
   | false =>
    have d40 : (x.t.toList != [40]) = true := by rw [bne, c40]; rfl
    cases c91 : (x.t.toList == [91]) with
    | true =>
     have d91 : (x.t.toList != [91]) = false := by rw [bne, c91]; rfl
     have HV := Lib.hid (show aloneP x = false by rw [HA.out, c40, c91]; rfl)
     go_wp2_with fail
     go_ret
     exact ⟨by rw [HV.out]; rfl, B1.out⟩
    | false =>
     have d91 : (x.t.toList != [91]) = true := by rw [bne, c91]; rfl
     cases c123 : (x.t.toList == [123]) with
     | true =>
      have d123 : (x.t.toList != [123]) = false := by rw [bne, c123]; rfl
      have HV := Lib.hid (show aloneP x = false by rw [HA.out, c40, c91, c123]; rfl)
      go_wp2_with fail
      go_ret
      exact ⟨by rw [HV.out]; rfl, B1.out⟩
     | false =>
      have d123 : (x.t.toList != [123]) = true := by rw [bne, c123]; rfl
      have HV := Lib.hid (show aloneP x = true by rw [HA.out, c40, c91, c123]; rfl)
      go_wp2_with fail
      go_ret
      exact ⟨by rw [HV.out]; rfl, B1.out⟩
  ·have b5 : (x.k == 5) = false := by simpa using k5
   by_cases k2 : x.k = 2
   ·have b2 : (x.k == 2) = true := by simpa using k2
    have HV := Lib.hid (alone_no (x := x) (.inl k2))
    clear k1 k5 k2
    go_wp2_with fail
    go_ret
    exact ⟨by rw [HV.out]; rfl, B1.out⟩
   ·have b2 : (x.k == 2) = false := by simpa using k2
    by_cases k3 : x.k = 3
    ·have b3 : (x.k == 3) = true := by simpa using k3
     have HV := Lib.hid (alone_no (x := x) (.inr (.inl k3)))
     clear k1 k5 k2 k3
     go_wp2_with fail
     go_ret
     exact ⟨by rw [HV.out]; rfl, B1.out⟩
    ·have b3 : (x.k == 3) = false := by simpa using k3
     by_cases k4 : x.k = 4
     ·have b4 : (x.k == 4) = true := by simpa using k4
      have HV := Lib.hid (alone_no (x := x) (.inr (.inr k4)))
      clear k1 k5 k2 k3 k4
      go_wp2_with fail
      go_ret
      exact ⟨by rw [HV.out]; rfl, B1.out⟩
     ·have b4 : (x.k == 4) = false := by simpa using k4
      have HV := Lib.hid (alone_yes (x := x) ⟨k1, k2, k3, k4, k5⟩)
      clear k1 k5 k2 k3 k4
      go_wp2_with fail
      go_ret
      exact ⟨by rw [HV.out]; rfl, B1.out⟩
end Go.Proofs.YtlogcealmiokkaaGreatDoor
