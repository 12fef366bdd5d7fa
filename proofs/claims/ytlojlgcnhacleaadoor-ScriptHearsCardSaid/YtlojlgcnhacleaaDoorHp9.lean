/- coneyref21.Tell: its contract. -/
import Derived.Test.YtlojlgcnhacleaaDoorHp8
namespace Go.Proofs.YtlojlgcnhacleaaDoor
open Go.RowKit Go.Shelf
theorem tell_snoc (os : List (Nat × List UInt8)) (k : Nat) (h : k < os.length) : tellL (os.take (k + 1)) = tellL (os.take k) ++ (lineO os[k] ++ [10]) := by
  show joinL ((os.take (k + 1)).map lineO) = joinL ((os.take k).map lineO) ++ _
  rw [List.take_add_one, List.getElem?_eq_getElem h, List.map_append, joinL_app]
  simp [joinL]
theorem tell_pre (os : List (Nat × List UInt8)) (k : Nat) : (tellL (os.take k)).length ≤ (tellL os).length := by
  have : tellL os = tellL (os.take k) ++ tellL (os.drop k) := by
    show joinL (os.map lineO) = joinL ((os.take k).map lineO) ++ joinL ((os.drop k).map lineO)
    rw [← joinL_app, ← List.map_append, List.take_append_drop]
  rw [this, List.length_append]
  omega
theorem name_size (k : Int) : (nameI k).size ≤ 6 := by
  unfold nameI
  repeat' split
  all_goals decide
set_option maxRecDepth 100000 in
set_option maxHeartbeats 4000000 in
theorem rtell_any (os : List (Nat × List UInt8)) (A : Option Addr) (c : Nat) (w : World) (h : OutR w A os) (hk : ∀ o ∈ os, 1 ≤ o.1 ∧ o.1 ≤ 8) (hn : os.length ≤ 100000) (hl : (tellL os).length ≤ 1000000) (ht : ∀ o ∈ os, o.2.length ≤ 100000) :
    Calls Tryd.prog 7 #[.slice A os.length c] w fun e w' => e = .returned (.string (ba (tellL os))) ∧ Below w.heap.size w w' := by
  have HR := Lib.hid h
  clear h
  go_enter Tryd.func7, Tryd.ntmps7
  go_wp2
  go_loopw [3, 4] (fun ov iv wr => ∃ (k : Nat) (o : ByteArray), ov = .string o ∧ iv = .int .i64 (k : Int) ∧ k ≤ os.length ∧ o.size ≤ 1000000 ∧ Hid (o.data.toList = tellL (os.take k)) ∧ Below w.heap.size w wr) (fun _ iv _ => os.length - (intOf iv).toNat)
  case atStart => exact ⟨0, ⟨#[]⟩, rfl, rfl, by omega, by decide, Lib.hid rfl, Below.refl _ _⟩
  case round =>
    obtain ⟨k, o, rfl, rfl, hkl, hos, HO, hbr⟩ := hrel
    rcases Nat.lt_or_ge k os.length with hlt | hge
    · obtain ⟨g, rfl, c0, c1⟩ := (HR.out.below hbr).at' k hlt
      have hN := fun W : World => rname_any (os[k].1 : Int) W
      obtain ⟨nm, hnm⟩ : ∃ nm, nameI (os[k].1 : Int) = nm := ⟨_, rfl⟩
      have hns := name_size (os[k].1 : Int)
      rw [hnm] at hN hns
      have hM := fun W : World => rmasked_any (ba os[k].2) (by have := ht _ (List.getElem_mem hlt); show (ba os[k].2).data.size ≤ _; simp [ba]; omega) W
      have hms : (ba (maskL os[k].2)).size ≤ 200000 := by
        have h1 := ht _ (List.getElem_mem hlt)
        have h2 := mask_len os[k].2
        show (ba (maskL os[k].2)).data.size ≤ _
        simp [ba]; omega
      obtain ⟨mt, hmt⟩ : ∃ mt, ba (maskL os[k].2) = mt := ⟨_, rfl⟩
      have hM' : ∀ W : World, Calls Tryd.prog 18 #[.string (ba os[k].2)] W fun e w' => e = .returned (.string mt) ∧ Below W.heap.size W w' := fun W => by
        have := hM W
        rw [← hmt]
        exact this
      rw [hmt] at hms
      have hTT : hasT os[k].1 = (((os[k].1 : Int) == 1) || ((os[k].1 : Int) == 3) || ((os[k].1 : Int) == 4)) := by
        unfold hasT
        rw [Bool.eq_iff_iff]
        simp
        omega
      have hNK := name_kind os[k].1 (hk _ (List.getElem_mem hlt)).1 (hk _ (List.getElem_mem hlt)).2
      rw [hnm] at hNK
      have hSz : ∀ o' : ByteArray, o'.data.toList = tellL (os.take (k + 1)) → o'.size ≤ 1000000 := fun o' e => by
        have h1 := tell_pre os (k + 1)
        rw [← e, Array.length_toList] at h1
        exact Nat.le_trans h1 hl
      clear hM
      have hcat1 : ¬ (9223372036854775807 < o.size + nm.size) := by omega
      have hcat2 : ¬ (9223372036854775806 < o.size + nm.size) := by omega
      have hcat3 : ¬ (9223372036854775807 < o.size + nm.size + 1) := by omega
      have hcat4 : ¬ (9223372036854775807 < o.size + nm.size + 1 + mt.size) := by omega
      have hcat5 : ¬ (9223372036854775806 < o.size + nm.size + 1 + mt.size) := by omega
      have hcat6 : ¬ (9223372036854775807 < o.size + nm.size + 1 + mt.size + 1) := by omega
      have hT := fun W : World => rtexts_any (os[k].1 : Int) W
      cases hh : (((os[k].1 : Int) == 1) || ((os[k].1 : Int) == 3) || ((os[k].1 : Int) == 4)) with
      | true =>
        simp only [hh] at hT
        rw [hh] at hTT
        have E : (o ++ nm ++ ⟨#[32]⟩ ++ mt ++ ⟨#[10]⟩ : ByteArray).data.toList = tellL (os.take (k + 1)) := by
          rw [hTT, if_pos rfl] at hNK
          rw [tell_snoc os k hlt, lineO, hTT, if_pos rfl, ← hNK, ← hmt, ← HO.out]
          simp [ByteArray.data_append, ba]
        have ES := hSz _ E
        have EH := Lib.hid E
        clear hTT hNK hSz E
        go_wp2_with (first | (go_at_call 16; refine (hN _).mono ?_; rintro e w' ⟨rfl, rfl⟩) | (go_at_call 17; refine (hT _).mono ?_; rintro e w' ⟨rfl, rfl⟩) | (go_at_call 18; refine (hM' _).mono ?_; rintro e w5 ⟨rfl, hb5⟩))
        go_roundw
        case rel => exact ⟨k + 1, _, rfl, by go_num, by omega, ES, EH, hbr.trans (hb5.mono hbr.size)⟩
        case measure => simp [intOf]; omega
      | false =>
        simp only [hh] at hT
        rw [hh] at hTT
        have E : (o ++ nm ++ ⟨#[10]⟩ : ByteArray).data.toList = tellL (os.take (k + 1)) := by
          rw [hTT, if_neg (by decide), List.append_nil] at hNK
          rw [tell_snoc os k hlt, lineO, hTT, if_neg (by decide), ← hNK, ← HO.out]
          simp [ByteArray.data_append]
        have ES := hSz _ E
        have EH := Lib.hid E
        clear hTT hNK hSz E
        go_wp2_with (first | (go_at_call 16; refine (hN _).mono ?_; rintro e w' ⟨rfl, rfl⟩) | (go_at_call 17; refine (hT _).mono ?_; rintro e w' ⟨rfl, rfl⟩) | (go_at_call 18; refine (hM' _).mono ?_; rintro e w5 ⟨rfl, hb5⟩))
        go_roundw
        case rel => exact ⟨k + 1, _, rfl, by go_num, by omega, ES, EH, hbr⟩
        case measure => simp [intOf]; omega
    · go_wp2
      go_ret
      have h1 := HO.out
      rw [List.take_of_length_le hge] at h1
      refine ⟨?_, hbr⟩
      rw [← h1]
      rfl
end Go.Proofs.YtlojlgcnhacleaaDoor
