/- The walk through num.Print. -/
import Derived.Test.YtlogcealmiokkaaGreatDoorKGb
import Derived.Test.YtlogcealmiokkaaGreatDoorKRd4
import Derived.Test.YtlogcealmiokkaaGreatDoorKShelf
import Derived.Lib.Hide
import Derived.Lib.AppendIntMem
import Derived.WalkSmall
namespace Go.Proofs.YtlogcealmiokkaaGreatDoor
open Go.RowKit
theorem blk_lt {w : World} {b : Nat} {o : Obj} (h : w.heap[b]? = some o) : b < w.heap.size := by
 rcases Nat.lt_or_ge b w.heap.size with h' | h'
 ·exact h'
 ·rw [Array.getElem?_eq_none h'] at h; cases h
def TabX (w : World) : Prop := Lib.TabIs Tryz.prog w "internal/strconv.uint64pow10" .u64 Lib.pow10Tab
theorem TabX.below {w w' : World} (h : TabX w) (hb : Below w.heap.size w w') : TabX w' := by
 unfold TabX Lib.TabIs World.var? at h ⊢
 cases hg : Tryz.prog.globalNamed "internal/strconv.uint64pow10" with
 | none => rw [hg] at h; cases h
 | some g =>
  rw [hg] at h
  simp only [Option.bind_some] at h ⊢
  cases hh : w.heap[g]? with
  | none => rw [hh] at h; cases h
  | some o =>
   rw [hb.block g (blk_lt hh), hh]
   rw [hh] at h
   exact h
theorem itoa_any (a : Int) (w : World) (ha : I64 a) (ht : TabX w) : Calls Tryz.prog 104 #[.int .i64 a] w fun e w' => e = .returned (.string ⟨(Lib.itoa a).toArray⟩) ∧ Below w.heap.size w w' := by
 refine (Tryz.strconv_Itoa a ha.1 ha.2 w ht).mono ?_
 rintro e w1 ⟨rfl, k, os, rfl⟩
 exact ⟨rfl, Lib.below_grow _ _ (Nat.le_refl _) _ _⟩
end Go.Proofs.YtlogcealmiokkaaGreatDoor
