/- The walk of MachineConsults. -/
import Derived.Test.YtibcpdmeigdgpaaGreatDoorKMd9
namespace Go.Proofs.YtibcpdmeigdgpaaGreatDoor
open Go.RowKit
theorem cell_in {w : World} {a : Addr} {v : Value} (h : w.cell? a = some v) : a.block < w.heap.size := by
 rcases Nat.lt_or_ge a.block w.heap.size with h1 | h1
 ·exact h1
 ·rw [World.cell?, Array.getElem?_eq_none h1] at h
  cases h
def BsM (w : World) : Prop := (∃ mx, w.cell? ⟨2, 0, none⟩ = some (.int .i64 mx)) ∧ TabX w ∧ ErrX w ∧ TableX w ∧ GoalsX w
set_option maxRecDepth 100000 in
set_option maxHeartbeats 4000000 in
theorem machineconsults_any (s nm : ByteArray) (n : Int) (w : World) (h : BsM w) : Calls Tryz.prog 3 #[.string s, .string nm, .int .i64 n] w fun e w' => e = .returned (.bool true) ∧ Below w.heap.size w w' := by
 have B0 := Lib.hid (Below.refl w.heap.size w)
 by_cases hs : (4096 : Int) < (s.size : Int)
 ·go_enter Tryz.func3, Tryz.ntmps3
  go_wp2_with fail
  go_ret
  exact ⟨rfl, B0.out⟩
 by_cases hn : (1024 : Int) < (nm.size : Int)
 ·go_enter Tryz.func3, Tryz.ntmps3
  go_wp2_with fail
  go_ret
  exact ⟨rfl, B0.out⟩
 obtain ⟨⟨mx, hmx⟩, htab, herr, hops, hgl⟩ := h
 have hlt : 2 < w.heap.size ∧ 0 < w.heap.size := ⟨cell_in hmx, cell_in (hgl 0 (by omega))⟩
 have CP := Lib.hid (pconsult_any s w hmx htab herr hops hgl hlt)
 have HX := Lib.hid (And.intro hmx (And.intro hgl hlt))
 have hnm : nm.size ≤ 5000 := by omega
 clear hmx htab herr hops hgl hlt
 go_enter Tryz.func3, Tryz.ntmps3
 go_wp2_with fail
 refine CP.out.mono ?_
 rintro e w1 ⟨⟨a1, p1, e1, rfl, R1⟩, h1⟩
 have B1 := Lib.hid h1
 clear h1 CP
 go_wp2_with fail
 refine (rconsult_any s w1).mono ?_
 rintro e w2 ⟨⟨a2, p2, e2, rfl, R2⟩, h2⟩
 have B2 := Lib.hid (B1.out.trans (h2.mono B1.out.size))
 clear h2
 have CR := Lib.hid (preserved_any nm n w2 ((B2.out.cell (p := ⟨2, 0, none⟩) HX.out.2.2.1).trans HX.out.1) (fun k hk => (B2.out.cell (p := ⟨0, k, none⟩) HX.out.2.2.2).trans (HX.out.2.1 k hk)) hnm)
 have CQ := Lib.hid (rreserved_any nm n w2)
 obtain ⟨rb, hrb⟩ : ∃ rb, resI nm n = rb := ⟨_, rfl⟩
 rw [hrb] at CR CQ
 clear hrb
 have r1 := R1.out
 have r2 := R2.out
 unfold ConsR at r1 r2
 cases hr : consN s with
 | some qk =>
  obtain ⟨q, k⟩ := qk
  rw [hr] at r1 r2
  obtain ⟨rfl, rfl, hk, ha1⟩ := r1
  obtain ⟨rfl, rfl, _, ha2⟩ := r2
  injection ha1 with ha1
  subst ha1
  have hk0 : (e2 == 0) = false := by simpa using hk
  clear hr hk ha2 R1 R2
  go_wp2_with fail
  refine CR.out.mono ?_
  rintro e w3 ⟨rfl, rfl⟩
  go_wp2_with fail
  refine CQ.out.mono ?_
  rintro e w4 ⟨rfl, h4⟩
  have B4 := Lib.hid (B2.out.trans (h4.mono B2.out.size))
  clear h4 CR CQ
  go_wp2_with fail
  go_ret
  exact ⟨by simp, B4.out⟩
 | none =>
  rw [hr] at r1 r2
  obtain ⟨rfl, rfl, g, ha1⟩ := r1
  obtain ⟨rfl, rfl, _, ha2⟩ := r2
  injection ha1 with ha1
  subst ha1
  clear hr ha2 R1 R2
  go_wp2_with fail
  refine CR.out.mono ?_
  rintro e w3 ⟨rfl, rfl⟩
  go_wp2_with fail
  refine CQ.out.mono ?_
  rintro e w4 ⟨rfl, h4⟩
  have B4 := Lib.hid (B2.out.trans (h4.mono B2.out.size))
  clear h4 CR CQ
  go_wp2_with fail
  go_ret
  exact ⟨by simp, B4.out⟩
end Go.Proofs.YtibcpdmeigdgpaaGreatDoor
