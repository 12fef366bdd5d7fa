/- The program's parser: mark, must, cell, constant. -/
import Derived.Test.YtlogcealmiokkaaGreatDoorKRq2
namespace Go.Proofs.YtlogcealmiokkaaGreatDoor
open Go.RowKit
set_option maxRecDepth 100000 in
set_option maxHeartbeats 1000000 in
theorem pmark_any {c : Rdc} {i : Nat} {ns : List ByteArray} (tx : ByteArray) (w : World) (h : Pd w c i ns) : Calls Tryz.prog 76 #[.pointer (some ⟨c.R, 0, none⟩), .string tx] w fun e w' =>
 ∃ b, e = .returned (.bool b) ∧ isM c.tk c.s.size i tx = b ∧ Pd w' c (if b then i + 1 else i) ns ∧ Frp c w w' ∧ (b = true → i < c.tn) := by
 have hB := h.base
 have H := Lib.hid h
 clear h
 go_enter Tryz.func76, Tryz.ntmps76
 go_wp2_with fail
 refine (ppeek_any _ H.out).mono ?_
 rintro e w1 ⟨rfl, h1⟩
 have H1 := Lib.hid ((H.out.below h1).alloc (Obj.cells #[.int .i64 (nx c i).k, .string (nx c i).t, .int .i64 ((nx c i).a : Int), .int .i64 ((nx c i).b : Int)] 60))
 have F1 := Lib.hid ((Frp.of_below h1 hB).newalloc hB (Obj.cells #[.int .i64 (nx c i).k, .string (nx c i).t, .int .i64 ((nx c i).a : Int), .int .i64 ((nx c i).b : Int)] 60))
 clear h1
 by_cases h5 : (nx c i).k = 5
 ·have h5' : ((nx c i).k != 5) = false := by simpa using h5
  cases htx : ((nx c i).t.toList == tx.toList) with
  | true =>
   have htx' : ((nx c i).t.toList != tx.toList) = false := by rw [bne, htx]; rfl
   have HM := Lib.hid (show isM c.tk c.s.size i tx = true by
    unfold isM
    rw [show nxT c.tk c.s.size i = nx c i from rfl, h5, htx]; rfl)
   have CT := Lib.hid (ptake_any _ H1.out (by rw [h5]; decide))
   have HL := Lib.hid (nx_ltp H1.out (by rw [h5]; decide))
   clear h5
   go_wp2_with fail
   refine CT.out.mono ?_
   rintro e w2 ⟨rfl, h2, f2⟩
   go_wp2_with fail
   go_ret
   exact ⟨true, rfl, HM.out, h2, F1.out.trans f2, fun _ => HL.out⟩
  | false =>
   have htx' : ((nx c i).t.toList != tx.toList) = true := by rw [bne, htx]; rfl
   have HM := Lib.hid (show isM c.tk c.s.size i tx = false by
    unfold isM
    rw [show nxT c.tk c.s.size i = nx c i from rfl, htx, Bool.and_false])
   clear h5
   go_wp2_with fail
   go_ret
   exact ⟨false, rfl, HM.out, H1.out, F1.out, fun h => by cases h⟩
 ·have h5' : ((nx c i).k != 5) = true := by simpa using h5
  have h5'' : ((nx c i).k == 5) = false := by simpa using h5
  have HM := Lib.hid (show isM c.tk c.s.size i tx = false by
   unfold isM
   rw [show nxT c.tk c.s.size i = nx c i from rfl, h5'']; rfl)
  go_wp2_with fail
  go_ret
  exact ⟨false, rfl, HM.out, H1.out, F1.out, fun h => by cases h⟩
set_option maxRecDepth 100000 in
set_option maxHeartbeats 1000000 in
theorem pmust_any {c : Rdc} {i : Nat} {ns : List ByteArray} (tx : ByteArray) (w : World) (h : Pd w c i ns) : Calls Tryz.prog 93 #[.pointer (some ⟨c.R, 0, none⟩), .string tx] w fun e w' =>
 PQ c w i (mustN c.tk c.s.size tx () i ns) (fun _ j v _ => v = .tuple #[] ∧ j = i + 1) e w' := by
 have hB := h.base
 have H := Lib.hid h
 clear h
 go_enter Tryz.func93, Tryz.ntmps93
 go_wp2_with fail
 refine (pmark_any _ _ H.out).mono ?_
 rintro e w1 ⟨b, rfl, hm, h1, f1, hlt⟩
 have HM := Lib.hid hm
 clear hm
 cases b with
 | true =>
  have H1 := Lib.hid h1
  clear h1 hlt
  go_wp2_with fail
  refine bodyPost_ret (results_none rfl _ _ _) rfl ?_
  have e1 : mustN c.tk c.s.size tx () i ns = .ok ((), i + 1, ns) := by unfold mustN; rw [if_pos HM.out]
  rw [e1]
  exact ⟨f1, _, rfl, H1.out, Nat.le_succ _, rfl, rfl⟩
 | false =>
  have H1 := Lib.hid h1
  clear h1 hlt
  go_wp2_with fail
  refine (pfail_any _ H1.out).mono ?_
  rintro e w2 ⟨rfl, f2⟩
  have e1 : mustN c.tk c.s.size tx () i ns = .error (errA c.tk c.s.size i 50) := by unfold mustN; rw [HM.out]; rfl
  go_wp2_with fail
  refine ⟨rfl, ?_⟩
  rw [e1]
  exact ⟨f1.trans f2, rfl⟩
theorem pcell_any (nm : ByteArray) (A : Option Addr) (m cc : Nat) (w : World) : Calls Tryz.prog 56 #[.string nm, .slice A m cc] w fun e w' => e = .returned (.agg #[.int .i64 4, .int .i64 0, .string nm, .slice A m cc]) ∧ Below w.heap.size w w' := by
 go_enter Tryz.func56, Tryz.ntmps56
 go_wp2_with fail
 refine bodyPost_ret (v := .agg #[.int .i64 4, .int .i64 0, .string nm, .slice A m cc]) (by simp [results, go_sem]) rfl ?_
 exact ⟨rfl, (Below.refl _ _).alloc (Nat.le_refl _) _⟩
theorem pconst_any (nm : ByteArray) (w : World) : Calls Tryz.prog 78 #[.string nm] w fun e w' => e = .returned (.agg #[.int .i64 3, .int .i64 0, .string nm, .slice none 0 0]) ∧ Below w.heap.size w w' := by
 go_enter Tryz.func78, Tryz.ntmps78
 go_wp2_with fail
 refine bodyPost_ret (v := .agg #[.int .i64 3, .int .i64 0, .string nm, .slice none 0 0]) (by simp [results, go_sem]) rfl ?_
 exact ⟨rfl, (Below.refl _ _).alloc (Nat.le_refl _) _⟩
end Go.Proofs.YtlogcealmiokkaaGreatDoor
