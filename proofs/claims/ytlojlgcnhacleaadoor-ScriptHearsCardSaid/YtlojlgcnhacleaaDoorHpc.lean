/- script.unmask, of a text that was masked. -/
import Derived.Test.YtlojlgcnhacleaaDoorHr0
import Derived.Test.YtlojlgcnhacleaaDoorPl
namespace Go.Proofs.YtlojlgcnhacleaaDoor
open Go.RowKit Go.Shelf
theorem unm_step {c : UInt8} {r t : List UInt8} (h : unmL (c :: r) = some t) : (c ≠ 92 ∧ ∃ u, unmL r = some u ∧ t = c :: u) ∨ (c = 92 ∧ ∃ (d : UInt8) (r' : List UInt8) (x : UInt8) (u : List UInt8), r = d :: r' ∧ unmL r' = some u ∧ t = x :: u ∧ ((d = 110 ∧ x = 10) ∨ (d = 92 ∧ x = 92))) := by
  by_cases hc : c = 92
  · subst hc
    cases r with
    | nil => simp [unmL] at h
    | cons d r' =>
      rw [unmL, if_pos rfl] at h
      by_cases hd : d = 110
      · subst hd
        rw [if_pos rfl] at h
        obtain ⟨u, hu, rfl⟩ := Option.map_eq_some_iff.1 h
        exact .inr ⟨rfl, _, _, 10, u, rfl, hu, rfl, .inl ⟨rfl, rfl⟩⟩
      · rw [if_neg hd] at h
        by_cases hd2 : d = 92
        · subst hd2
          rw [if_pos rfl] at h
          obtain ⟨u, hu, rfl⟩ := Option.map_eq_some_iff.1 h
          exact .inr ⟨rfl, _, _, 92, u, rfl, hu, rfl, .inr ⟨rfl, rfl⟩⟩
        · rw [if_neg hd2] at h
          cases h
  · rw [unm_other hc] at h
    obtain ⟨u, hu, rfl⟩ := Option.map_eq_some_iff.1 h
    exact .inl ⟨hc, u, hu, rfl⟩
def strLen : Value → Nat
  | .string q => q.size
  | _ => 0
theorem ext_tail {q : ByteArray} {c : UInt8} {r : List UInt8} (h : q.data.toList = c :: r) : (q.extract 1 q.size).data.toList = r := by
  have : q.size = (q.data.toList).length := Array.length_toList.symm
  rw [ByteArray.data_extract, Array.toList_extract, h]
  simp [this, h]
theorem byte0 {q : ByteArray} {c : UInt8} {r : List UInt8} (h : q.data.toList = c :: r) (hq : 0 < q.size) : q[0] = c := by
  have : q.data.toList[0]? = some c := by rw [h]; rfl
  have h2 : q.data[0]? = some c := by rw [← Array.getElem?_toList]; exact this
  rw [Array.getElem?_eq_getElem (show 0 < q.data.size from hq)] at h2
  exact Option.some.inj h2
set_option maxRecDepth 100000 in
set_option maxHeartbeats 4000000 in
theorem unmask_any (s : ByteArray) (t : List UInt8) (h : unmL s.data.toList = some t) (hs : s.size ≤ 100000000) (w : World) :
    Calls Tryd.prog 26 #[.string s] w fun e w' => e = .returned (.tuple #[.string (ba t), .bool true]) ∧ Below w.heap.size w w' := by
  have IB0 := Lib.hid (bld_new w)
  have BB0 := Lib.hid (belA (Below.refl w.heap.size w) (.cells #[.pointer none, .slice none 0 0] TB))
  have H := Lib.hid h
  clear h
  go_enter Tryd.func26, Tryd.ntmps26
  go_wp2
  go_loopw [0] (fun sv wr => ∃ (l u : List UInt8) (q : ByteArray), sv = .string q ∧ Hid (unmL q.data.toList = some u) ∧ Hid (l ++ u = t) ∧ l.length + q.size ≤ s.size ∧ Hid (Lib.IsBuilder TB 5 w.heap.size w.heap.size (Lib.byteCells l) wr) ∧ Below w.heap.size w wr) (fun sv _ => strLen sv)
  case atStart => exact ⟨[], t, s, rfl, H, Lib.hid rfl, by simp, IB0, BB0.out⟩
  case round =>
    obtain ⟨l, u, q, rfl, HU, HT, hq, HI, hbl⟩ := hrel
    have hsz := hbl.size
    have HB := Lib.hid hbl
    clear hbl
    have hqs : q.data.toList.length = q.size := Array.length_toList
    cases hq0 : q.data.toList with
    | nil =>
      have ht0 : (q.toList == []) = true := by rw [ByteArray.toList_eq, hq0]; rfl
      have CS := Lib.hid (Tryd.Builder_String_any w.heap.size w.heap.size l wr HI.out hsz)
      have hlt : l = t := by
        have h1 := HU.out
        rw [hq0] at h1
        have h2 := HT.out
        rw [← h2, ← Option.some.inj h1, List.append_nil]
      have HLT := Lib.hid hlt
      clear hlt hq0 hqs
      go_wp2_with fail
      refine CS.out.mono ?_
      rintro e w1 ⟨rfl, hb1⟩
      go_wp2_with fail
      refine bodyPost_ret (v := .tuple #[.string (ba l), .bool true]) (by simp [results, go_sem]; rfl) rfl ?_
      rw [HLT.out]
      exact ⟨rfl, HB.out.trans hb1⟩
    | cons c r =>
      have ht0 : (q.toList == []) = false := by rw [ByteArray.toList_eq, hq0]; rfl
      have hq1 : 0 < q.size := by rw [hq0] at hqs; simp at hqs; omega
      have hb0 := byte0 hq0 hq1
      have hr := ext_tail hq0
      obtain ⟨q2, hq2⟩ : ∃ q2, q.extract 1 q.size = q2 := ⟨_, rfl⟩
      have hq2s : q2.data.toList.length = q2.size := Array.length_toList
      have hrl : r.length + 1 = q.size := by rw [← hqs, hq0]; rfl
      rw [hq2] at hr
      have h1 := HU.out
      rw [hq0] at h1
      have HI2 := HI.out
      rcases unm_step h1 with ⟨hc, u', hu', rfl⟩ | ⟨rfl, d, r', x, u', rfl, hu', rfl, hx⟩
      · have hc' : ((c.toNat : Int) == 92) = false := by
          rw [beq_eq_false_iff_ne]
          exact fun e => hc (UInt8.toNat_inj.1 (by simpa using (Int.ofNat.inj e)))
        have CW := Lib.hid (wbyte_any w.heap.size w.heap.size (Lib.byteCells l) (c.toNat : Int) wr HI.out (by rw [Lib.byteCells_length]; omega) hsz)
        have H2 := Lib.hid (show unmL q2.data.toList = some u' by rw [hr]; exact hu')
        have HT2 := Lib.hid (show (l ++ [c]) ++ u' = t by rw [← HT.out]; simp)
        have hl2 : (l ++ [c]).length + q2.size ≤ s.size := by rw [List.length_append, ← hq2s, hr]; simp; omega
        have hlt2 : q2.size < q.size := by rw [← hq2s, hr]; omega
        clear hu' hc h1 hr hq0 hqs hq2s
        go_wp2_with fail
        refine CW.out.mono ?_
        rintro e w1 ⟨rfl, i1, b1⟩
        have I1 := Lib.hid (show Lib.IsBuilder TB 5 w.heap.size w.heap.size (Lib.byteCells (l ++ [c])) w1 by rw [show Lib.byteCells (l ++ [c]) = Lib.byteCells l ++ [.int .u8 (c.toNat : Int)] by simp [Lib.byteCells]]; exact i1)
        have B1 := HB.out.trans b1
        clear i1 b1 CW
        go_wp2_with fail
        go_roundw
        case rel => exact ⟨l ++ [c], u', q2, rfl, H2, HT2, hl2, I1, B1⟩
        case measure => simp [strLen]; omega
      · have ht2 : (q2.toList == []) = false := by rw [ByteArray.toList_eq, hr]; rfl
        have hq21 : 0 < q2.size := by rw [hr] at hq2s; simp at hq2s; omega
        have hb2 := byte0 hr hq21
        have hr2 := ext_tail hr
        obtain ⟨q3, hq3⟩ : ∃ q3, q2.extract 1 q2.size = q3 := ⟨_, rfl⟩
        have hq3s : q3.data.toList.length = q3.size := Array.length_toList
        have hrl2 : r'.length + 1 = q2.size := by rw [← hq2s, hr]; rfl
        rw [hq3] at hr2
        have H2 := Lib.hid (show unmL q3.data.toList = some u' by rw [hr2]; exact hu')
        have HT2 := Lib.hid (show (l ++ [x]) ++ u' = t by rw [← HT.out]; simp)
        have hl2 : (l ++ [x]).length + q3.size ≤ s.size := by rw [List.length_append, ← hq3s, hr2]; simp at hrl ⊢; omega
        have hlt3 : q3.size < q.size := by rw [← hq3s, hr2]; simp at hrl ⊢; omega
        have CW := Lib.hid (wbyte_any w.heap.size w.heap.size (Lib.byteCells l) (x.toNat : Int) wr HI.out (by rw [Lib.byteCells_length]; omega) hsz)
        have HE := Lib.hid (show Lib.byteCells (l ++ [x]) = Lib.byteCells l ++ [.int .u8 (x.toNat : Int)] by simp [Lib.byteCells])
        clear hu' h1 hr hq0 hqs hq2s hr2 hq3s
        rcases hx with ⟨rfl, rfl⟩ | ⟨rfl, rfl⟩
        · go_wp2_with fail
          refine CW.out.mono ?_
          rintro e w1 ⟨rfl, i1, b1⟩
          have I1 := Lib.hid (show Lib.IsBuilder TB 5 w.heap.size w.heap.size (Lib.byteCells (l ++ [10])) w1 by rw [HE.out]; exact i1)
          have B1 := HB.out.trans b1
          clear i1 b1 CW
          go_wp2_with fail
          go_roundw
          case rel => exact ⟨l ++ [10], u', q3, rfl, H2, HT2, hl2, I1, B1⟩
          case measure => simp [strLen]; omega
        · go_wp2_with fail
          refine CW.out.mono ?_
          rintro e w1 ⟨rfl, i1, b1⟩
          have I1 := Lib.hid (show Lib.IsBuilder TB 5 w.heap.size w.heap.size (Lib.byteCells (l ++ [92])) w1 by rw [HE.out]; exact i1)
          have B1 := HB.out.trans b1
          clear i1 b1 CW
          go_wp2_with fail
          go_roundw
          case rel => exact ⟨l ++ [92], u', q3, rfl, H2, HT2, hl2, I1, B1⟩
          case measure => simp [strLen]; omega
end Go.Proofs.YtlojlgcnhacleaaDoor
