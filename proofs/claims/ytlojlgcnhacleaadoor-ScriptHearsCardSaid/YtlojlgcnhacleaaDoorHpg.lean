/- The walk of ScriptHears. -/
import Derived.Test.YtlojlgcnhacleaaDoorHpf
namespace Go.Proofs.YtlojlgcnhacleaaDoor
open Go.RowKit Go.Shelf
set_option maxRecDepth 100000 in
set_option maxHeartbeats 4000000 in
theorem same_any (os : List (Nat × List UInt8)) (A A' : Option Addr) (c c' : Nat) (w : World) (h : OutR w A os) (h' : OutR w A' os) (hn : os.length ≤ 100000) :
    Calls Tryd.prog 8 #[.slice A os.length c, .slice A' os.length c'] w fun e w' => e = .returned (.bool true) ∧ Below w.heap.size w w' := by
  have H := Lib.hid h
  have H' := Lib.hid h'
  clear h h'
  go_enter Tryd.func8, Tryd.ntmps8
  go_wp2_with fail
  go_loopw [5] (fun iv wr => ∃ i : Nat, iv = .int .i64 (i : Int) ∧ i ≤ os.length ∧ Below w.heap.size w wr) (fun iv _ => os.length - (intOf iv).toNat)
  case atStart => exact ⟨0, rfl, Nat.zero_le _, Below.refl _ _⟩
  case round =>
    obtain ⟨i, rfl, hi, hb⟩ := hrel
    have HB := Lib.hid hb
    clear hb
    rcases Nat.lt_or_ge i os.length with hlt | hge
    · obtain ⟨g, rfl, c0, c1⟩ := (H.out.below HB.out).at' i hlt
      obtain ⟨g', rfl, d0, d1⟩ := (H'.out.below HB.out).at' i hlt
      generalize os[i] = o at *
      obtain ⟨K, tx⟩ := o
      obtain ⟨t, ht⟩ : ∃ t, ba tx = t := ⟨_, rfl⟩
      simp only at c0 c1 d0 d1
      rw [ht] at c1 d1
      have hil : (i : Int) < (os.length : Int) := by omega
      clear ht
      go_wp2_with fail
      go_region
      go_wp2_with fail
      go_roundw
      case rel => exact ⟨i + 1, by go_num, by omega, by first | exact HB.out.drew | exact HB.out⟩
      case measure => simp [intOf]; omega
    · have hil : ¬ (i : Int) < (os.length : Int) := by omega
      go_wp2_with fail
      go_ret
      exact ⟨rfl, HB.out⟩
/-- A kind that there is. -/
def kOf (x : Int) : Nat := (1 + x.tmod 8 % 8).toNat
theorem kOf_range (x : Int) : 1 ≤ kOf x ∧ kOf x ≤ 8 ∧ 1 + x.tmod 8 % 8 = (kOf x : Int) := by
  unfold kOf
  omega
/-- The outcome that the law makes of a given one. -/
def ownO (z : Int × ByteArray) : Nat × List UInt8 := (kOf z.1, if hasT (kOf z.1) then z.2.data.toList else [])
def ownL (z : Nat → Int × ByteArray) : Nat → List (Nat × List UInt8)
  | 0 => []
  | k + 1 => ownL z k ++ [ownO (z k)]
theorem ownL_len (z : Nat → Int × ByteArray) : ∀ k, (ownL z k).length = k
  | 0 => rfl
  | k + 1 => by simp [ownL, ownL_len z k]
theorem ownL_mem (z : Nat → Int × ByteArray) : ∀ k, ∀ o ∈ ownL z k, ∃ j, j < k ∧ o = ownO (z j)
  | 0, o, h => by cases h
  | k + 1, o, h => by
    rcases List.mem_append.1 h with h | h
    · obtain ⟨j, hj, e⟩ := ownL_mem z k o h
      exact ⟨j, by omega, e⟩
    · exact ⟨k, by omega, List.mem_singleton.1 h⟩
theorem sumZ_le (z : Nat → Int × ByteArray) : ∀ (m j : Nat), j < m → (z j).2.size ≤ sumZ z m
  | 0, j, h => absurd h (by omega)
  | m + 1, j, h => by
    unfold sumZ
    rcases Nat.lt_or_ge j m with h1 | h1
    · have := sumZ_le z m j h1
      omega
    · obtain rfl : j = m := by omega
      omega
theorem tell_size (z : Nat → Int × ByteArray) : ∀ m, (tellL (ownL z m)).length ≤ 8 * m + 2 * sumZ z m
  | 0 => by simp [ownL, tellL, joinL]
  | m + 1 => by
    have h1 := tell_size z m
    have h2 : tellL (ownL z (m + 1)) = tellL (ownL z m) ++ (lineO (ownO (z m)) ++ [10]) := by
      show joinL ((ownL z m ++ [ownO (z m)]).map lineO) = joinL ((ownL z m).map lineO) ++ _
      rw [List.map_append, joinL_app]
      simp [joinL]
    have h3 : (lineO (ownO (z m))).length ≤ 7 + 2 * (z m).2.size := by
      have hk := kind_len (kOf (z m).1) (by have := (kOf_range (z m).1).2.1; omega)
      show (kindL (kOf (z m).1) ++ _).length ≤ _
      rw [List.length_append]
      have h4 : (if hasT (ownO (z m)).1 = true then maskL (ownO (z m)).2 else []).length ≤ 2 * (z m).2.size := by
        split
        · refine Nat.le_trans (mask_len _) ?_
          show 2 * (if hasT (kOf (z m).1) = true then (z m).2.data.toList else []).length ≤ _
          split
          · rw [Array.length_toList]; exact Nat.le_refl _
          · simp
        · simp
      omega
    rw [h2, List.length_append, List.length_append]
    show _ + (_ + 1) ≤ _
    unfold sumZ
    omega
end Go.Proofs.YtlojlgcnhacleaaDoor
