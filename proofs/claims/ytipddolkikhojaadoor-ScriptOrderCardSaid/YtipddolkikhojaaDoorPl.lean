/- What the program's scripts call of the library: CutPrefix; what Contains and HasSuffix say; the table of words; the places of limits. -/
import Derived.Test.YtipddolkikhojaaDoorLi
import Derived.Test.YtipddolkikhojaaDoorBuild
import Derived.Test.YtipddolkikhojaaDoorNp1
import Derived.Lib.IndexLaws
namespace Go.Proofs.YtipddolkikhojaaDoor
open Go.RowKit

theorem hasP_beh {s p : ByteArray} : Lib.hasPrefix s.data.toList p.data.toList = (behL p.data.toList s.data.toList).isSome := by
  unfold Lib.hasPrefix behL
  by_cases h : s.data.toList.take p.data.toList.length = p.data.toList
  · rw [if_pos h]
    exact List.isPrefixOf_iff_prefix.2 ⟨s.data.toList.drop p.data.toList.length, by
      have e := List.take_append_drop p.data.toList.length s.data.toList
      rw [h] at e
      exact e⟩
  · rw [if_neg h]
    cases hp : p.data.toList.isPrefixOf s.data.toList with
    | false => rfl
    | true =>
      obtain ⟨r, hr⟩ := List.isPrefixOf_iff_prefix.1 hp
      exact absurd (by rw [← hr, List.take_left]) h
/-- What CutPrefix hands back: the rest, or all. -/
def cutO (s : ByteArray) (r : Option (List UInt8)) : ByteArray × Bool := match r with
  | some l => (ba l, true)
  | none => (s, false)
set_option maxRecDepth 100000 in
set_option maxHeartbeats 2000000 in
theorem slcutp_any (s p : ByteArray) (w : World) : Calls Tryd.prog 51 #[.string s, .string p] w fun e w' =>
    e = .returned (.tuple #[.string (cutO s (behL p.data.toList s.data.toList)).1, .bool (cutO s (behL p.data.toList s.data.toList)).2]) ∧ Below w.heap.size w w' := by
  have CH := Lib.hid (Tryd.stringslite_HasPrefix s p w)
  rw [hasP_beh] at CH
  cases hb : behL p.data.toList s.data.toList with
  | none =>
    rw [hb] at CH
    clear hb
    go_enter Tryd.func51, Tryd.ntmps51
    go_wp2_with (go_at_call 62; refine CH.out.mono ?_; rintro e w' ⟨rfl, rfl⟩)
    refine bodyPost_ret (v := .tuple #[.string s, .bool false]) (by simp [results, go_sem]) rfl ?_
    exact ⟨rfl, Below.refl _ _⟩
  | some r =>
    rw [hb] at CH
    have HR := Lib.hid (beh_rest hb)
    have hle : p.size ≤ s.size := by
      rcases Nat.lt_or_ge s.size p.size with h | h
      · rw [beh_short h] at hb; cases hb
      · exact h
    have hle' : (p.size : Int) ≤ (s.size : Int) := by omega
    clear hb
    go_enter Tryd.func51, Tryd.ntmps51
    go_wp2_with (go_at_call 62; refine CH.out.mono ?_; rintro e w' ⟨rfl, rfl⟩)
    rw [HR.out]
    refine bodyPost_ret (v := .tuple #[.string (ba r), .bool true]) (by simp [results, go_sem]) rfl ?_
    exact ⟨rfl, Below.refl _ _⟩
set_option maxRecDepth 100000 in
set_option maxHeartbeats 2000000 in
theorem cutp_any (s p : ByteArray) (w : World) : Calls Tryd.prog 32 #[.string s, .string p] w fun e w' =>
    e = .returned (.tuple #[.string (cutO s (behL p.data.toList s.data.toList)).1, .bool (cutO s (behL p.data.toList s.data.toList)).2]) ∧ Below w.heap.size w w' := by
  have CH := Lib.hid (slcutp_any s p w)
  generalize (cutO s (behL p.data.toList s.data.toList)).1 = x at *
  generalize (cutO s (behL p.data.toList s.data.toList)).2 = y at *
  go_enter Tryd.func32, Tryd.ntmps32
  go_wp2_with fail
  refine CH.out.mono ?_
  rintro e w' ⟨rfl, hb⟩
  go_wp2_with fail
  refine bodyPost_ret (v := .tuple #[.string x, .bool y]) (by simp [results, go_sem]) rfl ?_
  exact ⟨rfl, hb⟩
theorem idx_mem {l : List UInt8} {c : UInt8} : decide (0 ≤ Lib.indexByte l c) = decide (c ∈ l) := by
  have h1 := Lib.indexByte_ge l c
  congr 1
  apply propext
  constructor
  · intro h
    obtain ⟨o, ho⟩ : ∃ o : Nat, Lib.indexByte l c = (o : Int) := ⟨(Lib.indexByte l c).toNat, by omega⟩
    exact List.mem_of_getElem? (Lib.indexByte_some ho).1
  · intro h
    rcases Int.lt_or_le (Lib.indexByte l c) 0 with h2 | h2
    · obtain ⟨k, hk⟩ := List.mem_iff_getElem?.1 h
      exact absurd hk (Lib.indexByte_none (by omega) k)
    · exact h2
theorem suf_last {l : List UInt8} : Lib.hasSuffix l [10] = decide (l.getLast? = some 10) := by
  unfold Lib.hasSuffix
  rcases List.eq_nil_or_concat l with rfl | ⟨r, c, rfl⟩
  · rfl
  · rw [List.concat_eq_append, List.getLast?_concat]
    by_cases hc : c = 10
    · subst hc
      rw [decide_eq_true rfl]
      exact List.isSuffixOf_iff_suffix.2 ⟨r, rfl⟩
    · rw [decide_eq_false (by simpa using hc)]
      cases h : ([10] : List UInt8).isSuffixOf (r ++ [c]) with
      | false => rfl
      | true =>
        obtain ⟨x, hx⟩ := List.isSuffixOf_iff_suffix.1 h
        have := congrArg List.getLast? hx
        rw [List.getLast?_concat, List.getLast?_concat] at this
        injection this with this
        exact absurd this.symm hc
/-- The table of words. -/
def WordsX (w : World) : Prop := w.cell? ⟨1, 0, none⟩ = some (.string ⟨#[102, 117, 101, 108, 32]⟩) ∧ w.cell? ⟨1, 1, none⟩ = some (.string ⟨#[114, 111, 111, 109, 32]⟩) ∧
  w.cell? ⟨1, 2, none⟩ = some (.string ⟨#[115, 116, 97, 99, 107, 32]⟩) ∧ w.cell? ⟨1, 3, none⟩ = some (.string ⟨#[97, 110, 115, 119, 101, 114, 115, 32]⟩)
theorem WordsX.lt {w : World} (h : WordsX w) : 1 < w.heap.size := Lib.lt_of_cell h.1
theorem WordsX.low {w w' : World} {B : Nat} (h : WordsX w) (hB : 1 < B) (hb : Below B w w') : WordsX w' :=
  ⟨(hb.cell (p := ⟨1, 0, none⟩) hB).trans h.1, (hb.cell (p := ⟨1, 1, none⟩) hB).trans h.2.1, (hb.cell (p := ⟨1, 2, none⟩) hB).trans h.2.2.1, (hb.cell (p := ⟨1, 3, none⟩) hB).trans h.2.2.2⟩
theorem WordsX.below {w w' : World} (h : WordsX w) (hb : Below w.heap.size w w') : WordsX w' := h.low h.lt hb
set_option maxRecDepth 100000 in
set_option maxHeartbeats 4000000 in
theorem places_any (b o : Nat) (w : World) : Calls Tryd.prog 40 #[.pointer (some ⟨b, o, none⟩)] w fun e w' =>
    e = .returned (.agg #[.pointer (some ⟨b, o, none⟩), .pointer (some ⟨b, o + 1, none⟩), .pointer (some ⟨b, o + 2, none⟩), .pointer (some ⟨b, o + 3, none⟩)]) ∧ Below w.heap.size w w' := by
  obtain ⟨ob, hob⟩ : ∃ ob, ob = Obj.cells #[.pointer (some ⟨b, o, none⟩), .pointer (some ⟨b, o + 1, none⟩), .pointer (some ⟨b, o + 2, none⟩), .pointer (some ⟨b, o + 3, none⟩)] 83 := ⟨_, rfl⟩
  have XB := box4t (w := (w.alloc ob).drew) (by rw [hob]; exact heap_alloc_new w _)
  have BX := Lib.hid (belA (Below.refl w.heap.size w) ob)
  subst hob
  go_enter Tryd.func40, Tryd.ntmps40
  go_wp2_with fail
  go_region
  all_goals
    go_wp2_with fail
    obtain ⟨x0, x1, x2, x3⟩ := XB
    refine bodyPost_ret (v := .agg #[.pointer (some ⟨b, o, none⟩), .pointer (some ⟨b, o + 1, none⟩), .pointer (some ⟨b, o + 2, none⟩), .pointer (some ⟨b, o + 3, none⟩)]) (by simp [results, go_sem, x0, x1, x2, x3]) rfl ?_
    exact ⟨rfl, (BX.out).drew⟩
end Go.Proofs.YtipddolkikhojaaDoor
