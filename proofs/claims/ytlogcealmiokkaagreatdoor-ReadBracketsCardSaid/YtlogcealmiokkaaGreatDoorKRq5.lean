/- The program's parser: TrimLeft of zeros; integer. -/
import Derived.Test.YtlogcealmiokkaaGreatDoorKRq3
import Derived.Test.YtlogcealmiokkaaGreatDoorKRq4
import Derived.Test.YtlogcealmiokkaaGreatDoorKNp1
namespace Go.Proofs.YtlogcealmiokkaaGreatDoor
open Go.RowKit
def Ev (c : Rdc) (w : World) : Prop := c.B + c.N ≤ w.heap.size ∧ ∃ W0, TabX W0 ∧ ErrX W0 ∧ TableX W0 ∧ W0.heap.size ≤ c.B ∧ Below W0.heap.size W0 w
theorem Ev.fr {c : Rdc} {w w' : World} (h : Ev c w) (f : Frp c w w') : Ev c w' := by
 obtain ⟨hn, W0, h1, h2, h3, h4, h5⟩ := h
 exact ⟨Nat.le_trans hn f.size, W0, h1, h2, h3, h4, h5.trans (f.low.mono h4)⟩
theorem Ev.tab {c : Rdc} {w : World} (h : Ev c w) : TabX w := by
 obtain ⟨hn, W0, h1, h2, h3, h4, h5⟩ := h
 exact h1.below h5
theorem Ev.err {c : Rdc} {w : World} (h : Ev c w) : ErrX w := by
 obtain ⟨hn, W0, h1, h2, h3, h4, h5⟩ := h
 exact h2.below h5
theorem Ev.ops {c : Rdc} {w : World} (h : Ev c w) : TableX w := by
 obtain ⟨hn, W0, h1, h2, h3, h4, h5⟩ := h
 exact h3.below h5
def trimF : List UInt8 → List UInt8
 | [] => []
 | c :: l => if c = 48 then trimF l else c :: l
theorem trim_zeros : ∀ {l : List UInt8}, l ≠ [] → zerosL l = if trimF l = [] then [48] else trimF l
 | [], h => absurd rfl h
 | [c], _ => by
  unfold zerosL trimF
  by_cases hc : c = 48
  ·rw [if_pos hc, hc]; rfl
  ·rw [if_neg hc, if_neg (by simp)]
 | c :: d :: l, _ => by
  unfold zerosL trimF
  by_cases hc : c = 48
  ·rw [if_pos hc, if_pos hc, trim_zeros (l := d :: l) (by simp)]
  ·rw [if_neg hc, if_neg hc, if_neg (by simp)]
theorem trim_first : ∀ (l : List UInt8), trimF l ≠ [48]
 | [] => by simp [trimF]
 | c :: l => by
  unfold trimF
  split
  ·exact trim_first l
  ·rename_i h
   intro e
   injection e with e _
   exact h e
theorem ext_from1 (s : ByteArray) : (s.extract 1 s.size).data.toList = s.data.toList.drop 1 := by
 simp only [ByteArray.data_extract, Array.toList_extract, List.extract]
 rw [List.take_of_length_le]
 rw [List.length_drop, Array.length_toList]
 exact Nat.le_refl _
set_option maxRecDepth 100000 in
set_option maxHeartbeats 4000000 in
theorem trimbyte_any (s : ByteArray) (w : World) : Calls Tryz.prog 99 #[.string s, .int .u8 48] w fun e w' => (∃ t, e = .returned (.string t) ∧ Hid (t.data.toList = trimF s.data.toList) ∧ t.size ≤ s.size) ∧ w' = w := by
 go_enter Tryz.func99, Tryz.ntmps99
 go_wp2_with fail
 go_loopw [0] (fun sv wr => (∃ t : ByteArray, sv = .string t ∧ t.size ≤ s.size ∧ Hid (trimF t.data.toList = trimF s.data.toList)) ∧ w = wr) (fun sv _ => match sv with | .string t => t.size | _ => 0)
 case atStart => exact ⟨⟨s, rfl, Nat.le_refl _, Lib.hid rfl⟩, rfl⟩
 case round =>
  obtain ⟨⟨t, rfl, ht, hz⟩, rfl⟩ := hrel
  have hb : ∀ (i : Nat) (h : i < t.size), (t[i]'h).toNat = bn t i := bn_eq t
  by_cases h0 : 0 < t.size
  ·have h0' : (0 : Int) < (t.size : Int) := by omega
   have hd := data_bu h0
   cases h48 : ((bn t 0 : Int) == 48) with
   | true =>
    have hc : bu t 0 = 48 := by
     apply UInt8.toNat_inj.1
     show bn t 0 = 48
     have : (bn t 0 : Int) = 48 := by simpa using h48
     omega
    have HZ := Lib.hid (show trimF (t.extract 1 t.size).data.toList = trimF s.data.toList by
     rw [ext_from1, ← hz.out]
     conv => rhs; rw [hd, trimF, if_pos hc])
    clear hd hc
    go_wp2_with fail
    go_roundw
    case rel => exact ⟨⟨_, rfl, by rw [ByteArray.size_extract]; omega, HZ⟩, by trivial⟩
    case measure => simp; omega
   | false =>
    have hc : bu t 0 ≠ 48 := by
     intro e
     have : bn t 0 = 48 := by rw [bn_bu, e]; rfl
     rw [this] at h48
     exact absurd h48 (by decide)
    have HZ := Lib.hid (show t.data.toList = trimF s.data.toList by
     rw [← hz.out]
     conv => rhs; rw [hd, trimF, if_neg hc]
     exact hd)
    clear hd hc
    go_wp2_with fail
    go_ret
    exact ⟨⟨_, rfl, HZ, ht⟩, rfl⟩
  ·have h0' : ¬ (0 : Int) < (t.size : Int) := by omega
   have HZ := Lib.hid (show t.data.toList = trimF s.data.toList by
    have : t.data.toList = [] := by
     apply List.length_eq_zero_iff.1
     have : t.data.toList.length = t.size := Array.length_toList
     omega
    rw [← hz.out, this]; rfl)
   have h00 : t.size = 0 := by omega
   go_wp2_with fail
   go_ret
   exact ⟨⟨_, rfl, HZ, ht⟩, rfl⟩
set_option maxRecDepth 100000 in
set_option maxHeartbeats 4000000 in
theorem trim_any (s : ByteArray) (w : World) : Calls Tryz.prog 89 #[.string s, .string ⟨#[48]⟩] w fun e w' => (∃ t, e = .returned (.string t) ∧ Hid (t.data.toList = trimF s.data.toList) ∧ t.size ≤ s.size) ∧ w' = w := by
 have e48 : (⟨#[48]⟩ : ByteArray).size = 1 := rfl
 cases he : (s.toList == []) with
 | true =>
  have HZ := Lib.hid (show s.data.toList = trimF s.data.toList by
   have : s.data.toList = [] := by rw [← ByteArray.toList_eq]; simpa using he
   rw [this]; rfl)
  go_enter Tryz.func89, Tryz.ntmps89
  go_wp2_with fail
  go_ret
  exact ⟨⟨_, rfl, HZ, Nat.le_refl _⟩, rfl⟩
 | false =>
  have CT := Lib.hid (trimbyte_any s w)
  go_enter Tryz.func89, Tryz.ntmps89
  go_wp2_with fail
  refine CT.out.mono ?_
  rintro e w1 ⟨⟨t, rfl, h1, h2⟩, rfl⟩
  go_wp2_with fail
  go_ret
  exact ⟨⟨_, rfl, h1, h2⟩, rfl⟩
end Go.Proofs.YtlogcealmiokkaaGreatDoor
