/- The walk through num.Print. The walk through num.Parse. The program's parser: TrimLeft of zeros; integer. -/
import Derived.Test.YtibcpdmeigdgpaaGreatDoorKGb
import Derived.Test.YtibcpdmeigdgpaaGreatDoorKHb
import Derived.Test.YtibcpdmeigdgpaaGreatDoorKShelf
import Derived.Lib.Hide
import Derived.Lib.AppendIntMem
import Derived.WalkSmall
import Derived.Test.YtibcpdmeigdgpaaGreatDoorKHk
import Derived.Test.YtibcpdmeigdgpaaGreatDoorKRq4
namespace Go.Proofs.YtibcpdmeigdgpaaGreatDoor
open Go.RowKit
theorem blk_lt {w : World} {b : Nat} {o : Obj} (h : w.heap[b]? = some o) : b < w.heap.size := by
 rcases Nat.lt_or_ge b w.heap.size with h' | h'
 ·exact h'
 ·rw [Array.getElem?_eq_none h'] at h; cases h
def TabX (w : World) : Prop := Lib.TabIs Tryz.prog w "internal/strconv.uint64pow10" .u64 Lib.pow10Tab
theorem TabX.below {w w' : World} (h : TabX w) (hb : Below w.heap.size w w') : TabX w' := by
 unfold TabX Lib.TabIs World.var? at h ⊢
 cases hg : Tryz.prog.globalNamed "internal/strconv.uint64pow10" with
 | none => rw [hg] at h; cases h
 | some g =>
  rw [hg] at h
  simp only [Option.bind_some] at h ⊢
  cases hh : w.heap[g]? with
  | none => rw [hh] at h; cases h
  | some o =>
   rw [hb.block g (blk_lt hh), hh]
   rw [hh] at h
   exact h
theorem itoa_any (a : Int) (w : World) (ha : I64 a) (ht : TabX w) : Calls Tryz.prog 116 #[.int .i64 a] w fun e w' => e = .returned (.string ⟨(Lib.itoa a).toArray⟩) ∧ Below w.heap.size w w' := by
 refine (Tryz.strconv_Itoa a ha.1 ha.2 w ht).mono ?_
 rintro e w1 ⟨rfl, k, os, rfl⟩
 exact ⟨rfl, Lib.below_grow _ _ (Nat.le_refl _) _ _⟩
end Go.Proofs.YtibcpdmeigdgpaaGreatDoor
namespace Go.Proofs.YtibcpdmeigdgpaaGreatDoor
open Go.RowKit
def ErrX (w : World) : Prop := (∃ te pe, w.cell? ⟨5, 0, none⟩ = some (.iface te pe)) ∧ ∃ te pe, w.cell? ⟨6, 0, none⟩ = some (.iface te pe)
theorem ErrX.below {w w' : World} (h : ErrX w) (hb : Below w.heap.size w w') : ErrX w' := by
 obtain ⟨⟨t1, p1, h1⟩, t2, p2, h2⟩ := h
 exact ⟨⟨t1, p1, (hb.cell (Lib.lt_of_cell h1)).trans h1⟩, t2, p2, (hb.cell (Lib.lt_of_cell h2)).trans h2⟩
def ParseP (s : ByteArray) (w : World) (e : Ending) (w' : World) : Prop :=
 (∃ n er, e = .returned (.tuple #[.int .i64 n, .int .i64 er]) ∧ I64 n ∧ Hid ((er = 0 ∧ parseN s = some n) ∨ (er = 12 ∧ n = 0 ∧ parseN s = none))) ∧ Below w.heap.size w w'
theorem bytes_itoa {s : ByteArray} {v : Int} (h : Lib.itoa v = s.toList) : s.data.toList = Lib.itoa v := by rw [h, ByteArray.toList_eq]
set_option maxRecDepth 100000 in
set_option maxHeartbeats 4000000 in
theorem pparse_any (s : ByteArray) (w : World) (hs : s.size ≤ 281474976710656) (ht : TabX w) (he : ErrX w) : Calls Tryz.prog 101 #[.string s] w fun e w' => ParseP s w e w' := by
 have no : Lib.atoiAll s.data.toList = .syntax ∨ Lib.atoiAll s.data.toList = .range → parseN s = none := fun h => parse_not fun n h0 h1 e => by
  rw [← e, atoi_itoa h0 h1] at h
  rcases h with h | h <;> cases h
 have NO := Lib.hid no
 have TX := Lib.hid ht
 have EX := Lib.hid he
 obtain ⟨⟨t1, p1, h1⟩, t2, p2, h2⟩ := he
 have bad : ∀ w', Below w.heap.size w w' → parseN s = none → ParseP s w (.returned (.tuple #[.int .i64 0, .int .i64 12])) w' := fun w' hb hp => ⟨⟨0, 12, rfl, by unfold I64; omega, Lib.hid (.inr ⟨rfl, rfl, hp⟩)⟩, hb⟩
 have BAD := Lib.hid bad
 clear no bad ht
 rcases ha : Lib.atoiAll s.data.toList with v | _ | _
 rotate_left
 ·
  have CA := Lib.hid (Tryz.strconv_Atoi_syntax s hs ha _ w h1 (.inr ⟨_, _, rfl⟩))
  have HP := Lib.hid (NO.out (.inl ha))
  clear ha h1 h2
  go_enter Tryz.func101, Tryz.ntmps101
  go_wp2_with fail
  refine CA.out.mono ?_
  rintro e w1 ⟨N, rfl, _, _, hb⟩
  have B1 := Lib.hid hb
  clear hb CA
  go_wp2_with fail
  go_ret2
  exact BAD.out _ B1.out HP.out
 ·
  have CA := Lib.hid (Tryz.strconv_Atoi_range s hs ha _ w h2 (.inr ⟨_, _, rfl⟩))
  have HP := Lib.hid (NO.out (.inr ha))
  clear ha h1 h2
  go_enter Tryz.func101, Tryz.ntmps101
  go_wp2_with fail
  refine CA.out.mono ?_
  rintro e w1 ⟨N, rfl, _, _, hb⟩
  have B1 := Lib.hid hb
  clear hb CA
  go_wp2_with fail
  go_ret2
  exact BAD.out _ B1.out HP.out
 ·
  have hv := Lib.atoiAll_bounds ha
  have HV := Lib.hid (show I64 v from ⟨hv.1, hv.2⟩)
  have CA := Lib.hid (Tryz.strconv_Atoi_ok s (by omega) v ha w)
  have HA := Lib.hid ha
  clear ha h1 h2
  go_enter Tryz.func101, Tryz.ntmps101
  go_wp2_with fail
  refine CA.out.mono ?_
  rintro e w1 ⟨rfl, hw⟩
  have B1 := Lib.hid (show Below w.heap.size w w1 by
   rcases hw with rfl | ⟨t, rfl⟩
   ·exact Below.refl _ _
   ·exact Lib.bytesWorld_below _ _ _)
  have CI := Lib.hid (itoa_any v w1 HV.out (TX.out.below B1.out))
  clear hw CA
  go_wp2_with fail
  refine CI.out.mono ?_
  rintro e w2 ⟨rfl, hb⟩
  have B2 := Lib.hid (B1.out.trans (hb.mono B1.out.size))
  clear hb CI
  cases hq : (Lib.itoa v == s.toList) with
  | true =>
   have HP := Lib.hid (parse_itoa (bytes_itoa (beq_iff_eq.1 hq)) HV.out.1 HV.out.2)
   go_wp2_with fail
   go_ret2
   exact ⟨⟨v, 0, rfl, HV.out, Lib.hid (.inl ⟨rfl, HP.out⟩)⟩, B2.out⟩
  | false =>
   have HP := Lib.hid (show parseN s = none from parse_not fun n h0 h1 e => by
    have h := HA.out
    rw [← e, atoi_itoa h0 h1] at h
    injection h with h
    subst h
    rw [e, ByteArray.toList_eq, beq_self_eq_true] at hq
    cases hq)
   go_wp2_with fail
   go_ret2
   exact BAD.out _ B2.out HP.out
end Go.Proofs.YtibcpdmeigdgpaaGreatDoor
namespace Go.Proofs.YtibcpdmeigdgpaaGreatDoor
open Go.RowKit
def Ev (c : Rdc) (w : World) : Prop := c.B + c.N ≤ w.heap.size ∧ ∃ W0, TabX W0 ∧ ErrX W0 ∧ TableX W0 ∧ W0.heap.size ≤ c.B ∧ Below W0.heap.size W0 w
theorem Ev.fr {c : Rdc} {w w' : World} (h : Ev c w) (f : Frp c w w') : Ev c w' := by
 obtain ⟨hn, W0, h1, h2, h3, h4, h5⟩ := h
 exact ⟨Nat.le_trans hn f.size, W0, h1, h2, h3, h4, h5.trans (f.low.mono h4)⟩
theorem Ev.tab {c : Rdc} {w : World} (h : Ev c w) : TabX w := by
 obtain ⟨hn, W0, h1, h2, h3, h4, h5⟩ := h
 exact h1.below h5
theorem Ev.err {c : Rdc} {w : World} (h : Ev c w) : ErrX w := by
 obtain ⟨hn, W0, h1, h2, h3, h4, h5⟩ := h
 exact h2.below h5
theorem Ev.ops {c : Rdc} {w : World} (h : Ev c w) : TableX w := by
 obtain ⟨hn, W0, h1, h2, h3, h4, h5⟩ := h
 exact h3.below h5
def trimF : List UInt8 → List UInt8
 | [] => []
 | c :: l => if c = 48 then trimF l else c :: l
theorem trim_zeros : ∀ {l : List UInt8}, l ≠ [] → zerosL l = if trimF l = [] then [48] else trimF l
 | [], h => absurd rfl h
 | [c], _ => by
  unfold zerosL trimF
  by_cases hc : c = 48
  ·rw [if_pos hc, hc]; rfl
  ·rw [if_neg hc, if_neg (by simp)]
 | c :: d :: l, _ => by
  unfold zerosL trimF
  by_cases hc : c = 48
  ·rw [if_pos hc, if_pos hc, trim_zeros (l := d :: l) (by simp)]
  ·rw [if_neg hc, if_neg hc, if_neg (by simp)]
theorem trim_first : ∀ (l : List UInt8), trimF l ≠ [48]
 | [] => by simp [trimF]
 | c :: l => by
  unfold trimF
  split
  ·exact trim_first l
  ·rename_i h
   intro e
   injection e with e _
   exact h e
theorem ext_from1 (s : ByteArray) : (s.extract 1 s.size).data.toList = s.data.toList.drop 1 := by
 simp only [ByteArray.data_extract, Array.toList_extract, List.extract]
 rw [List.take_of_length_le]
 rw [List.length_drop, Array.length_toList]
 exact Nat.le_refl _
set_option maxRecDepth 100000 in
set_option maxHeartbeats 4000000 in
theorem trimbyte_any (s : ByteArray) (w : World) : Calls Tryz.prog 111 #[.string s, .int .u8 48] w fun e w' => (∃ t, e = .returned (.string t) ∧ Hid (t.data.toList = trimF s.data.toList) ∧ t.size ≤ s.size) ∧ w' = w := by
 go_enter Tryz.func111, Tryz.ntmps111
 go_wp2_with fail
 go_loopw [0] (fun sv wr => (∃ t : ByteArray, sv = .string t ∧ t.size ≤ s.size ∧ Hid (trimF t.data.toList = trimF s.data.toList)) ∧ w = wr) (fun sv _ => match sv with | .string t => t.size | _ => 0)
 case atStart => exact ⟨⟨s, rfl, Nat.le_refl _, Lib.hid rfl⟩, rfl⟩
 case round =>
  obtain ⟨⟨t, rfl, ht, hz⟩, rfl⟩ := hrel
  have hb : ∀ (i : Nat) (h : i < t.size), (t[i]'h).toNat = bn t i := bn_eq t
  by_cases h0 : 0 < t.size
  ·have h0' : (0 : Int) < (t.size : Int) := by omega
   have hd := data_bu h0
   cases h48 : ((bn t 0 : Int) == 48) with
   | true =>
    have hc : bu t 0 = 48 := by
     apply UInt8.toNat_inj.1
     show bn t 0 = 48
     have : (bn t 0 : Int) = 48 := by simpa using h48
     omega
    have HZ := Lib.hid (show trimF (t.extract 1 t.size).data.toList = trimF s.data.toList by
     rw [ext_from1, ← hz.out]
     conv => rhs; rw [hd, trimF, if_pos hc])
    clear hd hc
    go_wp2_with fail
    go_roundw
    case rel => exact ⟨⟨_, rfl, by rw [ByteArray.size_extract]; omega, HZ⟩, by trivial⟩
    case measure => simp; omega
   | false =>
    have hc : bu t 0 ≠ 48 := by
     intro e
     have : bn t 0 = 48 := by rw [bn_bu, e]; rfl
     rw [this] at h48
     exact absurd h48 (by decide)
    have HZ := Lib.hid (show t.data.toList = trimF s.data.toList by
     rw [← hz.out]
     conv => rhs; rw [hd, trimF, if_neg hc]
     exact hd)
    clear hd hc
    go_wp2_with fail
    go_ret
    exact ⟨⟨_, rfl, HZ, ht⟩, rfl⟩
  ·have h0' : ¬ (0 : Int) < (t.size : Int) := by omega
   have HZ := Lib.hid (show t.data.toList = trimF s.data.toList by
    have : t.data.toList = [] := by
     apply List.length_eq_zero_iff.1
     have : t.data.toList.length = t.size := Array.length_toList
     omega
    rw [← hz.out, this]; rfl)
   have h00 : t.size = 0 := by omega
   go_wp2_with fail
   go_ret
   exact ⟨⟨_, rfl, HZ, ht⟩, rfl⟩
set_option maxRecDepth 100000 in
set_option maxHeartbeats 4000000 in
theorem trim_any (s : ByteArray) (w : World) : Calls Tryz.prog 100 #[.string s, .string ⟨#[48]⟩] w fun e w' => (∃ t, e = .returned (.string t) ∧ Hid (t.data.toList = trimF s.data.toList) ∧ t.size ≤ s.size) ∧ w' = w := by
 have e48 : (⟨#[48]⟩ : ByteArray).size = 1 := rfl
 cases he : (s.toList == []) with
 | true =>
  have HZ := Lib.hid (show s.data.toList = trimF s.data.toList by
   have : s.data.toList = [] := by rw [← ByteArray.toList_eq]; simpa using he
   rw [this]; rfl)
  go_enter Tryz.func100, Tryz.ntmps100
  go_wp2_with fail
  go_ret
  exact ⟨⟨_, rfl, HZ, Nat.le_refl _⟩, rfl⟩
 | false =>
  have CT := Lib.hid (trimbyte_any s w)
  go_enter Tryz.func100, Tryz.ntmps100
  go_wp2_with fail
  refine CT.out.mono ?_
  rintro e w1 ⟨⟨t, rfl, h1, h2⟩, rfl⟩
  go_wp2_with fail
  go_ret
  exact ⟨⟨_, rfl, h1, h2⟩, rfl⟩
end Go.Proofs.YtibcpdmeigdgpaaGreatDoor
