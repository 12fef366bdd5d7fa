/- Reserved names of the program. -/
import Derived.Test.YtibcpdmeigdgpaaGreatDoorKHg
import Derived.Test.YtibcpdmeigdgpaaGreatDoorKShelf
namespace Go.Proofs.YtibcpdmeigdgpaaGreatDoor
open Go.RowKit
theorem has_iff {s sub : List UInt8} : Lib.contains s sub = true ↔ ∃ a b, s = a ++ (sub ++ b) := by
 unfold Lib.contains
 rw [decide_eq_true_iff]
 constructor
 ·intro h
  rcases Lib.index_spec s sub with ⟨h1, _⟩ | ⟨i, _, _, h3, _⟩
  ·omega
  ·obtain ⟨b, hb⟩ := List.isPrefixOf_iff_prefix.1 h3
   exact ⟨s.take i, b, by rw [hb, List.take_append_drop]⟩
 ·rintro ⟨a, b, rfl⟩
  rcases Lib.index_spec (a ++ (sub ++ b)) sub with ⟨_, h2⟩ | ⟨i, h1, _⟩
  ·have h3 := h2 a.length (by simp)
   unfold Lib.occAt at h3
   rw [List.drop_left] at h3
   rw [List.isPrefixOf_iff_prefix.2 ⟨b, rfl⟩] at h3
   cases h3
  ·omega
theorem one_mem {l : List UInt8} {c : UInt8} : decide (0 ≤ Lib.indexByte l c) = decide (c ∈ l) := by
 have h1 := Lib.indexByte_ge l c
 congr 1
 apply propext
 constructor
 ·intro h
  obtain ⟨o, ho⟩ : ∃ o : Nat, Lib.indexByte l c = (o : Int) := ⟨(Lib.indexByte l c).toNat, by omega⟩
  exact List.mem_of_getElem? (Lib.indexByte_some ho).1
 ·intro h
  rcases Int.lt_or_le (Lib.indexByte l c) 0 with h2 | h2
  ·obtain ⟨k, hk⟩ := List.mem_iff_getElem?.1 h
   exact absurd hk (Lib.indexByte_none (by omega) k)
  ·exact h2
def wordB (l nm : List UInt8) : Bool := !(nm == []) && !decide (32 ∈ nm) && Lib.contains l (32 :: (nm ++ [32]))
theorem word_res {nm : List UInt8} {n : Nat} (hn : n < 5) : wordB (resL n) nm = resT nm n := by
 apply Bool.eq_iff_iff.2
 rw [res_prog hn]
 unfold wordB
 rw [Bool.and_eq_true, Bool.and_eq_true, has_iff]
 simp [and_assoc]
set_option maxRecDepth 100000 in
set_option maxHeartbeats 2000000 in
theorem word_any (l nm : ByteArray) (w : World) {mx : Int} (hmx : w.cell? ⟨2, 0, none⟩ = some (.int .i64 mx)) (hl : l.size ≤ 5000) (hn : nm.size ≤ 5000) :
 Calls Tryz.prog 16 #[.string l, .string nm] w fun e w' => e = .returned (.bool (wordB l.data.toList nm.data.toList)) ∧ w = w' := by
 have hc1 : ¬ (9223372036854775807 : Int) < (nm.size : Int) + 1 := by omega
 have hc2 : ¬ (9223372036854775807 : Int) < 1 + (nm.size : Int) := by omega
 have C1 := Lib.hid (Tryz.strings_Contains_one nm 32 w)
 rw [one_mem] at C1
 unfold wordB
 cases h1 : (nm.toList == []) with
 | true =>
  have e : (nm.data.toList == []) = true := by rw [← ByteArray.toList_eq]; exact h1
  rw [e]
  have HE := Lib.hid e
  clear e
  go_enter Tryz.func16, Tryz.ntmps16
  go_wp2_with fail
  go_ret
  exact ⟨rfl, rfl⟩
 | false =>
  have e : (nm.data.toList == []) = false := by rw [← ByteArray.toList_eq]; exact h1
  rw [e]
  have HE := Lib.hid e
  clear e
  cases h2 : decide (32 ∈ nm.data.toList) with
  | true =>
   rw [h2] at C1
   clear h2
   go_enter Tryz.func16, Tryz.ntmps16
   go_wp2_with fail
   refine C1.out.mono ?_
   rintro e w1 ⟨rfl, rfl⟩
   go_wp2_with fail
   go_ret
   exact ⟨rfl, rfl⟩
  | false =>
   rw [h2] at C1
   clear h2
   go_enter Tryz.func16, Tryz.ntmps16
   go_wp2_with fail
   refine C1.out.mono ?_
   rintro e w1 ⟨rfl, rfl⟩
   go_wp2_with fail
   have CC := Lib.hid (Tryz.strings_Contains l (⟨#[32]⟩ ++ nm ++ ⟨#[32]⟩) mx w1 (by omega) hmx)
   rw [show (⟨#[32]⟩ ++ nm ++ ⟨#[32]⟩ : ByteArray).data.toList = 32 :: (nm.data.toList ++ [32]) by simp [ByteArray.data_append]] at CC
   refine CC.out.mono ?_
   rintro e w2 ⟨rfl, rfl⟩
   go_wp2_with fail
   go_ret
   exact ⟨rfl, rfl⟩
def GoalsX (w : World) : Prop := ∀ n : Nat, n < 5 → w.cell? ⟨0, n, none⟩ = some (.string (ba (resL n)))
set_option maxRecDepth 100000 in
set_option maxHeartbeats 2000000 in
theorem preserved_any (nm : ByteArray) (n : Int) (w : World) {mx : Int} (hmx : w.cell? ⟨2, 0, none⟩ = some (.int .i64 mx)) (hg : GoalsX w) (hn : nm.size ≤ 5000) :
 Calls Tryz.prog 6 #[.string nm, .int .i64 n] w fun e w' => e = .returned (.bool (resI nm n)) ∧ w = w' := by
 unfold resI
 by_cases h0 : 0 ≤ n
 ·by_cases h5 : n < 5
  ·obtain ⟨k, rfl⟩ : ∃ k : Nat, n = (k : Int) := ⟨n.toNat, by omega⟩
   have hk : k < 5 := by omega
   have c0 := hg k hk
   have hsz : (ba (resL k)).size ≤ 5000 := by
    have : ∀ q, q < 5 → (ba (resL q)).size ≤ 5000 := by decide +kernel
    exact this k hk
   have CW := Lib.hid (word_any (ba (resL k)) nm w hmx hsz hn)
   rw [ba_data, word_res hk] at CW
   rw [Int.toNat_natCast]
   obtain ⟨rb, hrb⟩ : ∃ rb, resT nm.data.toList k = rb := ⟨_, rfl⟩
   rw [hrb] at CW ⊢
   obtain ⟨s, hs⟩ : ∃ s, ba (resL k) = s := ⟨_, rfl⟩
   rw [hs] at c0 CW
   clear hg hrb hs hsz
   go_enter Tryz.func6, Tryz.ntmps6
   go_wp2_with fail
   refine CW.out.mono ?_
   rintro e w1 ⟨rfl, rfl⟩
   go_wp2_with fail
   go_ret
   exact ⟨by simp, rfl⟩
  ·have e : (decide (0 ≤ n) && resT nm.data.toList n.toNat) = false := by rw [show resT nm.data.toList n.toNat = false by unfold resT; rw [resW_none (by omega)]; rfl]; simp
   rw [e]
   clear e hg
   go_enter Tryz.func6, Tryz.ntmps6
   go_wp2_with fail
   go_ret
   exact ⟨rfl, rfl⟩
 ·have e : (decide (0 ≤ n) && resT nm.data.toList n.toNat) = false := by simp [h0]
  rw [e]
  clear e hg
  go_enter Tryz.func6, Tryz.ntmps6
  go_wp2_with fail
  go_ret
  exact ⟨rfl, rfl⟩
end Go.Proofs.YtibcpdmeigdgpaaGreatDoor
