/- What the program's scripts call of the library: CutPrefix; what Contains and HasSuffix say; the table of words; the places of limits. -/
import Derived.Test.YtlojlgcnhacleaaDoorLi
import Derived.Test.YtlojlgcnhacleaaDoorBuild
import Derived.Test.YtlojlgcnhacleaaDoorNp1
import Derived.Lib.IndexLaws
namespace Go.Proofs.YtlojlgcnhacleaaDoor
open Go.RowKit

theorem hasP_beh {s p : ByteArray} : Lib.hasPrefix s.data.toList p.data.toList = (behL p.data.toList s.data.toList).isSome := by
  unfold Lib.hasPrefix behL
  by_cases h : s.data.toList.take p.data.toList.length = p.data.toList
  · rw [if_pos h]
    exact List.isPrefixOf_iff_prefix.2 ⟨s.data.toList.drop p.data.toList.length, by
      have e := List.take_append_drop p.data.toList.length s.data.toList
      rw [h] at e
      exact e⟩
  · rw [if_neg h]
    cases hp : p.data.toList.isPrefixOf s.data.toList with
    | false => rfl
    | true =>
      obtain ⟨r, hr⟩ := List.isPrefixOf_iff_prefix.1 hp
      exact absurd (by rw [← hr, List.take_left]) h
/-- What CutPrefix hands back: the rest, or all. -/
def cutO (s : ByteArray) (r : Option (List UInt8)) : ByteArray × Bool := match r with
  | some l => (ba l, true)
  | none => (s, false)
set_option maxRecDepth 100000 in
set_option maxHeartbeats 2000000 in
theorem slcutp_any (s p : ByteArray) (w : World) : Calls Tryd.prog 32 #[.string s, .string p] w fun e w' =>
    e = .returned (.tuple #[.string (cutO s (behL p.data.toList s.data.toList)).1, .bool (cutO s (behL p.data.toList s.data.toList)).2]) ∧ Below w.heap.size w w' := by
  have CH := Lib.hid (Tryd.stringslite_HasPrefix s p w)
  rw [hasP_beh] at CH
  cases hb : behL p.data.toList s.data.toList with
  | none =>
    rw [hb] at CH
    clear hb
    go_enter Tryd.func32, Tryd.ntmps32
    go_wp2_with (go_at_call 41; refine CH.out.mono ?_; rintro e w' ⟨rfl, rfl⟩)
    refine bodyPost_ret (v := .tuple #[.string s, .bool false]) (by simp [results, go_sem]) rfl ?_
    exact ⟨rfl, Below.refl _ _⟩
  | some r =>
    rw [hb] at CH
    have HR := Lib.hid (beh_rest hb)
    have hle : p.size ≤ s.size := by
      rcases Nat.lt_or_ge s.size p.size with h | h
      · rw [beh_short h] at hb; cases hb
      · exact h
    have hle' : (p.size : Int) ≤ (s.size : Int) := by omega
    clear hb
    go_enter Tryd.func32, Tryd.ntmps32
    go_wp2_with (go_at_call 41; refine CH.out.mono ?_; rintro e w' ⟨rfl, rfl⟩)
    rw [HR.out]
    refine bodyPost_ret (v := .tuple #[.string (ba r), .bool true]) (by simp [results, go_sem]) rfl ?_
    exact ⟨rfl, Below.refl _ _⟩
set_option maxRecDepth 100000 in
set_option maxHeartbeats 2000000 in
theorem cutp_any (s p : ByteArray) (w : World) : Calls Tryd.prog 25 #[.string s, .string p] w fun e w' =>
    e = .returned (.tuple #[.string (cutO s (behL p.data.toList s.data.toList)).1, .bool (cutO s (behL p.data.toList s.data.toList)).2]) ∧ Below w.heap.size w w' := by
  have CH := Lib.hid (slcutp_any s p w)
  generalize (cutO s (behL p.data.toList s.data.toList)).1 = x at *
  generalize (cutO s (behL p.data.toList s.data.toList)).2 = y at *
  go_enter Tryd.func25, Tryd.ntmps25
  go_wp2_with fail
  refine CH.out.mono ?_
  rintro e w' ⟨rfl, hb⟩
  go_wp2_with fail
  refine bodyPost_ret (v := .tuple #[.string x, .bool y]) (by simp [results, go_sem]) rfl ?_
  exact ⟨rfl, hb⟩
theorem idx_mem {l : List UInt8} {c : UInt8} : decide (0 ≤ Lib.indexByte l c) = decide (c ∈ l) := by
  have h1 := Lib.indexByte_ge l c
  congr 1
  apply propext
  constructor
  · intro h
    obtain ⟨o, ho⟩ : ∃ o : Nat, Lib.indexByte l c = (o : Int) := ⟨(Lib.indexByte l c).toNat, by omega⟩
    exact List.mem_of_getElem? (Lib.indexByte_some ho).1
  · intro h
    rcases Int.lt_or_le (Lib.indexByte l c) 0 with h2 | h2
    · obtain ⟨k, hk⟩ := List.mem_iff_getElem?.1 h
      exact absurd hk (Lib.indexByte_none (by omega) k)
    · exact h2
end Go.Proofs.YtlojlgcnhacleaaDoor
