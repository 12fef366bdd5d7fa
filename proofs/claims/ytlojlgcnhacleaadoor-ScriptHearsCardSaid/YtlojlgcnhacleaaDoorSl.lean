/- The reference's small functions of scripts: Lines, behind, word, feeds, Check. -/
import Derived.Test.YtlojlgcnhacleaaDoorSr1
import Derived.Test.YtlojlgcnhacleaaDoorPush
import Derived.Test.YtlojlgcnhacleaaDoorRow
import Derived.Test.YtlojlgcnhacleaaDoorRd4
import Derived.Test.YtlojlgcnhacleaaDoorNpp
import Derived.WalkSpells
import Derived.Lib.Bytes
import Derived.Lib.Hide
import Derived.Deep.RegionHeld3
namespace Go.Proofs.YtlojlgcnhacleaaDoor
open Go.RowKit

theorem Tryd.info_str : (Tryd.prog.info? 9).map (fun i => (i.zero, i.size, i.bytes)) = some (some (.string ⟨#[]⟩), 1, 16) := by kernel_rfl
theorem elStr : El Tryd.prog 52 9 (.string ⟨#[]⟩) 1 16 := by
  obtain ⟨i0, hi, hz0, hz1, hz2⟩ := info_parts Tryd.info_str
  exact ⟨Tryd.underlying52, ⟨i0, hi, hz0, hz1, hz2⟩, rfl, by omega⟩
theorem ext_snoc {s : ByteArray} {f i : Nat} (hf : f ≤ i) (hi : i < s.size) : (s.extract f (i + 1)).data.toList = (s.extract f i).data.toList ++ [bu s i] := by
  have hl : i < s.data.toList.length := by rw [Array.length_toList]; exact hi
  have h2 : i - f < (s.data.toList.drop f).length := by rw [List.length_drop]; omega
  have e : bu s i = s.data.toList[i] := by unfold bu; rw [List.getD_eq_getElem?_getD, List.getElem?_eq_getElem hl]; rfl
  rw [e]
  simp only [ByteArray.data_extract, Array.toList_extract, List.extract]
  rw [show i + 1 - f = (i - f) + 1 by omega, List.take_succ_eq_append_getElem h2]
  congr 2
  rw [List.getElem_drop]
  congr 1
  omega
theorem ext_same (s : ByteArray) (i : Nat) : (s.extract i i).data.toList = [] := by simp
theorem drop_bu {s : ByteArray} {i : Nat} (hi : i < s.size) : s.data.toList.drop i = bu s i :: s.data.toList.drop (i + 1) := by
  have hl : i < s.data.toList.length := by rw [Array.length_toList]; exact hi
  rw [List.drop_eq_getElem_cons hl]
  congr 1
  unfold bu; rw [List.getD_eq_getElem?_getD, List.getElem?_eq_getElem hl]; rfl
theorem drop_ext (s : ByteArray) (f i : Nat) (h : f ≤ i) : s.data.toList.drop f = (s.extract f i).data.toList ++ s.data.toList.drop i := by
  simp only [ByteArray.data_extract, Array.toList_extract, List.extract]
  conv => lhs; rw [← List.take_append_drop (i - f) (s.data.toList.drop f)]
  rw [List.drop_drop, show f + (i - f) = i by omega]
theorem feed_bu {s : ByteArray} {i : Nat} : ((bn s i : Int) == 10) = true ↔ bu s i = 10 := by
  rw [bn_bu, beq_iff_eq]
  constructor
  · intro h
    apply UInt8.toNat_inj.1
    have : ((10 : UInt8).toNat : Int) = 10 := rfl
    omega
  · intro h; rw [h]; rfl
/-- What has been gathered, and what is to come. -/
def LInv (s : ByteArray) (f i : Nat) (ts : List ByteArray) : Prop := linesL s.data.toList = (ts.map fun t => t.data.toList) ++ linesL (s.data.toList.drop f) ∧ ∀ c ∈ (s.extract f i).data.toList, c ≠ 10
theorem LInv.start (s : ByteArray) : LInv s 0 0 [] := ⟨by simp, fun c h => by rw [ext_same] at h; cases h⟩
theorem LInv.cut {s : ByteArray} {f i : Nat} {ts : List ByteArray} (h : LInv s f i ts) (hf : f ≤ i) (hi : i < s.size) (hc : bu s i = 10) : LInv s (i + 1) (i + 1) (ts ++ [s.extract f i]) := by
  refine ⟨?_, fun c hm => by rw [ext_same] at hm; cases hm⟩
  rw [h.1, drop_ext s f i hf, drop_bu hi, hc, lines_feed _ h.2]
  simp
theorem LInv.none {s : ByteArray} {f : Nat} {ts : List ByteArray} (h : LInv s f s.size ts) (hf : ¬ f < s.size) : linesL s.data.toList = ts.map fun t => t.data.toList := by
  rw [h.1, List.drop_of_length_le (by rw [Array.length_toList]; have h9 : s.data.size = s.size := rfl; omega), lines_nil, List.append_nil]
theorem beh_short {w s : ByteArray} (h : s.size < w.size) : behL w.data.toList s.data.toList = none := by
  unfold behL
  rw [if_neg fun e => ?_]
  have := congrArg List.length e
  rw [List.length_take, Array.length_toList, Array.length_toList] at this
  have h1 : w.data.size = w.size := rfl
  have h2 : s.data.size = s.size := rfl
  omega
theorem bytes_same {a b : ByteArray} (h : a.data.toList = b.data.toList) : a = b := by
  apply ByteArray.ext
  exact Array.toList_inj.1 h
theorem beh_rest {w s : ByteArray} {r : List UInt8} (h : behL w.data.toList s.data.toList = some r) : s.extract w.size s.size = ba r := by
  unfold behL at h
  split at h
  · injection h with h
    apply bytes_same
    rw [← h]
    simp only [ByteArray.data_extract, Array.toList_extract, List.extract]
    rw [List.take_of_length_le (by rw [List.length_drop, Array.length_toList]; exact Nat.le_refl _)]
    simp [ba]
  · cases h
theorem blk_set {w : World} {g : Nat} {t : TypeId} {cs : Array Value} {m : Nat × Nat} (h : w.heap[g]? = some (.cells cs t m)) (i : Nat) (u : Value) : (w.setCell ⟨g, i, none⟩ u).heap[g]? = some (.cells (cs.setIfInBounds i u) t m) := by
  simp [World.setCell, Array.getElem?_modify, h]
theorem belA {w w1 : World} (h : Below w.heap.size w w1) (o : Obj) : Below w.heap.size w (w1.alloc o) := h.alloc h.size o
theorem box4t {w : World} {g : Nat} {t : TypeId} {f : Nat × Nat} {a b c d : Value} (h : w.heap[g]? = some (.cells #[a, b, c, d] t f)) :
    w.cell? ⟨g, 0, none⟩ = some a ∧ w.cell? ⟨g, 1, none⟩ = some b ∧ w.cell? ⟨g, 2, none⟩ = some c ∧ w.cell? ⟨g, 3, none⟩ = some d :=
  ⟨cell_of_row w g 0 _ _ _ h, cell_of_row w g 1 _ _ _ h, cell_of_row w g 2 _ _ _ h, cell_of_row w g 3 _ _ _ h⟩
end Go.Proofs.YtlojlgcnhacleaaDoor
