/- A world that holds what the card lists: closed facts, told apart, for each by itself fits into the memory that a build has. -/
import Derived.Test.YtdgpmpccfjmmcaaGreatDoorRows
import Derived.LaidLaws
import Derived.LaidMore
import Derived.Lib.LaidTab
import Derived.KernelRfl
namespace Go.Proofs.YtdgpmpccfjmmcaaGreatDoor.topFacts
open Go Go.ChangeShapes Go.WideShapes
set_option maxRecDepth 100000
/-- Does a place lie in this block? -/
def atB (g : Nat) : MemPlace → Bool
  | .cell b _ => b == g
  | .map _ => false
theorem run_cons {P : Program} {w : World} {fuel : Nat} {n : String} {ns : List String} {x : List (String × DataW Unit) × List MemPlace} (h : DataW.laidRun P w fuel (n :: ns) = some x) :
    ∃ y z, DataW.laidRun P w fuel [n] = some y ∧ DataW.laidRun P w fuel ns = some z ∧ x.2 = y.2 ++ z.2 := by
  simp only [DataW.laidRun] at h ⊢
  split at h
  · rename_i g hg
    split at h
    · rename_i t cs ht hv
      split at h
      · rename_i u v hu hv2
        refine ⟨([(n, u.1)], MemPlace.row ⟨g, 0, none⟩ cs.size ++ u.2 ++ []), v, by rw [hu], hv2, ?_⟩
        rw [← Option.some.inj h]
        simp
      · cases h
    · cases h
  · cases h
theorem laidMet_parts {P : Program} {w : World} {l : List (String × DataW Unit)} {fuel : Nat} {n : String} {ns : List String} (hl : l.map (·.1) = n :: ns) (h : (DataW.laidRun P w fuel (l.map (·.1))).map (·.1) = some l)
    {g : Nat} (n1 : (DataW.laidRun P w fuel [n]).map (fun x => decide x.2.Nodup && x.2.all (atB g)) = some true) (n2 : (DataW.laidRun P w fuel ns).map (fun x => decide x.2.Nodup && x.2.all (fun p => !atB g p)) = some true) (h1 : (DataW.laidRun P w fuel [n]).map (fun x => laidRowsB P w x.2) = some true) (h2 : (DataW.laidRun P w fuel ns).map (fun x => laidRowsB P w x.2) = some true) : laidMet P l w := by
  cases hx : DataW.laidRun P w fuel (l.map (·.1)) with
  | none => rw [hx] at h; cases h
  | some x =>
    rw [hx] at h
    have hx2 := hx
    rw [hl] at hx2
    obtain ⟨y, z, e1, e2, e3⟩ := run_cons hx2
    rw [e1] at h1 n1
    rw [e2] at h2 n2
    obtain ⟨l', ps⟩ := x
    have h : l' = l := Option.some.inj h
    subst h
    have e3 : ps = y.2 ++ z.2 := e3
    have n1 : (decide y.2.Nodup && y.2.all (atB g)) = true := Option.some.inj n1
    have n2 : (decide z.2.Nodup && z.2.all (fun p => !atB g p)) = true := Option.some.inj n2
    simp only [Bool.and_eq_true, decide_eq_true_eq, List.all_eq_true, Bool.not_eq_true'] at n1 n2
    have hnd : ps.Nodup := by
      rw [e3, List.nodup_append]
      refine ⟨n1.1, n2.1, fun a ha b hb e => ?_⟩
      have q1 := n1.2 a ha
      have q2 := n2.2 b hb
      rw [e, q2] at q1
      cases q1
    refine laidMet_of_run fuel hx (decide_eq_true hnd) ?_
    have q1 : laidRowsB P w y.2 = true := Option.some.inj h1
    have q2 : laidRowsB P w z.2 = true := Option.some.inj h2
    rw [e3]
    unfold laidRowsB at q1 q2 ⊢
    rw [List.all_append, q1, q2]
    rfl
noncomputable def laidWorld (os : Os) : World :=
  { World.doorLaid Tryz.prog 130 os with heap := (World.doorLaid Tryz.prog 130 os).heap.modify 6 fun
    | .cells _ t frozen => .cells (Pinned.utf8FirstZ.map fun (n : Nat) => Value.int .u8 (Int.ofNat n)).toArray t frozen
    | o => o }
theorem m1 (os : Os) : (DataW.laidRun Tryz.prog ((laidWorld os).forCall (fun _ _ => 0) ⟨#[], #[.slice none 0 0, .int .i8 0], []⟩).memory 8 (Rows.topFactsRow.laid.map (·.1))).map (·.1) = some Rows.topFactsRow.laid := by kernel_rfl
theorem m2 (os : Os) : (DataW.laidRun Tryz.prog ((laidWorld os).forCall (fun _ _ => 0) ⟨#[], #[.slice none 0 0, .int .i8 0], []⟩).memory 8 ["coney/ops.table"]).map (fun x => decide x.2.Nodup && x.2.all (atB 1)) = some true := by kernel_rfl
theorem m5 (os : Os) : (DataW.laidRun Tryz.prog ((laidWorld os).forCall (fun _ _ => 0) ⟨#[], #[.slice none 0 0, .int .i8 0], []⟩).memory 8 ["math/bits.deBruijn32tab", "math/bits.deBruijn64tab", "internal/strconv.uint64pow10", "unicode/utf8.acceptRanges", "strconv.ErrRange", "strconv.ErrSyntax", "coney/machine.goals", "unicode/utf8.first"]).map (fun x => decide x.2.Nodup && x.2.all (fun p => !atB 1 p)) = some true := by kernel_rfl
theorem m3 (os : Os) : (DataW.laidRun Tryz.prog ((laidWorld os).forCall (fun _ _ => 0) ⟨#[], #[.slice none 0 0, .int .i8 0], []⟩).memory 8 ["coney/ops.table"]).map (fun x => laidRowsB Tryz.prog ((laidWorld os).forCall (fun _ _ => 0) ⟨#[], #[.slice none 0 0, .int .i8 0], []⟩).memory x.2) = some true := by kernel_rfl
theorem m4 (os : Os) : (DataW.laidRun Tryz.prog ((laidWorld os).forCall (fun _ _ => 0) ⟨#[], #[.slice none 0 0, .int .i8 0], []⟩).memory 8 ["math/bits.deBruijn32tab", "math/bits.deBruijn64tab", "internal/strconv.uint64pow10", "unicode/utf8.acceptRanges", "strconv.ErrRange", "strconv.ErrSyntax", "coney/machine.goals", "unicode/utf8.first"]).map (fun x => laidRowsB Tryz.prog ((laidWorld os).forCall (fun _ _ => 0) ⟨#[], #[.slice none 0 0, .int .i8 0], []⟩).memory x.2) = some true := by kernel_rfl
theorem laid_met (os : Os) : laidMet Tryz.prog Rows.topFactsRow.laid ((laidWorld os).forCall (fun _ _ => 0) ⟨#[], #[.slice none 0 0, .int .i8 0], []⟩).memory := laidMet_parts rfl (m1 os) (m2 os) (m5 os) (m3 os) (m4 os)
end Go.Proofs.YtdgpmpccfjmmcaaGreatDoor.topFacts
