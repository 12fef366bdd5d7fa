/- The walk through num.Parse. -/
import Derived.Test.YtlogcealmiokkaaGreatDoorKNpp
namespace Go.Proofs.YtlogcealmiokkaaGreatDoor
open Go.RowKit
def ErrX (w : World) : Prop := (∃ te pe, w.cell? ⟨4, 0, none⟩ = some (.iface te pe)) ∧ ∃ te pe, w.cell? ⟨5, 0, none⟩ = some (.iface te pe)
theorem ErrX.below {w w' : World} (h : ErrX w) (hb : Below w.heap.size w w') : ErrX w' := by
 obtain ⟨⟨t1, p1, h1⟩, t2, p2, h2⟩ := h
 exact ⟨⟨t1, p1, (hb.cell (Lib.lt_of_cell h1)).trans h1⟩, t2, p2, (hb.cell (Lib.lt_of_cell h2)).trans h2⟩
def ParseP (s : ByteArray) (w : World) (e : Ending) (w' : World) : Prop :=
 (∃ n er, e = .returned (.tuple #[.int .i64 n, .int .i64 er]) ∧ I64 n ∧ Hid ((er = 0 ∧ parseN s = some n) ∨ (er = 12 ∧ n = 0 ∧ parseN s = none))) ∧ Below w.heap.size w w'
theorem bytes_itoa {s : ByteArray} {v : Int} (h : Lib.itoa v = s.toList) : s.data.toList = Lib.itoa v := by rw [h, ByteArray.toList_eq]
set_option maxRecDepth 100000 in
set_option maxHeartbeats 4000000 in
theorem pparse_any (s : ByteArray) (w : World) (hs : s.size ≤ 281474976710656) (ht : TabX w) (he : ErrX w) : Calls Tryz.prog 90 #[.string s] w fun e w' => ParseP s w e w' := by
 have no : Lib.atoiAll s.data.toList = .syntax ∨ Lib.atoiAll s.data.toList = .range → parseN s = none := fun h => parse_not fun n h0 h1 e => by
  rw [← e, atoi_itoa h0 h1] at h
  rcases h with h | h <;> cases h
 have NO := Lib.hid no
 have TX := Lib.hid ht
 have EX := Lib.hid he
 obtain ⟨⟨t1, p1, h1⟩, t2, p2, h2⟩ := he
 have bad : ∀ w', Below w.heap.size w w' → parseN s = none → ParseP s w (.returned (.tuple #[.int .i64 0, .int .i64 12])) w' := fun w' hb hp => ⟨⟨0, 12, rfl, by unfold I64; omega, Lib.hid (.inr ⟨rfl, rfl, hp⟩)⟩, hb⟩
 have BAD := Lib.hid bad
 clear no bad ht
 rcases ha : Lib.atoiAll s.data.toList with v | _ | _
 rotate_left
 ·
  have CA := Lib.hid (Tryz.strconv_Atoi_syntax s hs ha _ w h1 (.inr ⟨_, _, rfl⟩))
  have HP := Lib.hid (NO.out (.inl ha))
  clear ha h1 h2
  go_enter Tryz.func90, Tryz.ntmps90
  go_wp2_with fail
  refine CA.out.mono ?_
  rintro e w1 ⟨N, rfl, _, _, hb⟩
  have B1 := Lib.hid hb
  clear hb CA
  go_wp2_with fail
  go_ret2
  exact BAD.out _ B1.out HP.out
 ·
  have CA := Lib.hid (Tryz.strconv_Atoi_range s hs ha _ w h2 (.inr ⟨_, _, rfl⟩))
  have HP := Lib.hid (NO.out (.inr ha))
  clear ha h1 h2
  go_enter Tryz.func90, Tryz.ntmps90
  go_wp2_with fail
  refine CA.out.mono ?_
  rintro e w1 ⟨N, rfl, _, _, hb⟩
  have B1 := Lib.hid hb
  clear hb CA
  go_wp2_with fail
  go_ret2
  exact BAD.out _ B1.out HP.out
 ·
  have hv := Lib.atoiAll_bounds ha
  have HV := Lib.hid (show I64 v from ⟨hv.1, hv.2⟩)
  have CA := Lib.hid (Tryz.strconv_Atoi_ok s (by omega) v ha w)
  have HA := Lib.hid ha
  clear ha h1 h2
  go_enter Tryz.func90, Tryz.ntmps90
  go_wp2_with fail
  refine CA.out.mono ?_
  rintro e w1 ⟨rfl, hw⟩
  have B1 := Lib.hid (show Below w.heap.size w w1 by
   rcases hw with rfl | ⟨t, rfl⟩
   ·exact Below.refl _ _
   ·exact Lib.bytesWorld_below _ _ _)
  have CI := Lib.hid (itoa_any v w1 HV.out (TX.out.below B1.out))
  clear hw CA
  go_wp2_with fail
  refine CI.out.mono ?_
  rintro e w2 ⟨rfl, hb⟩
  have B2 := Lib.hid (B1.out.trans (hb.mono B1.out.size))
  clear hb CI
  cases hq : (Lib.itoa v == s.toList) with
  | true =>
   have HP := Lib.hid (parse_itoa (bytes_itoa (beq_iff_eq.1 hq)) HV.out.1 HV.out.2)
   go_wp2_with fail
   go_ret2
   exact ⟨⟨v, 0, rfl, HV.out, Lib.hid (.inl ⟨rfl, HP.out⟩)⟩, B2.out⟩
  | false =>
   have HP := Lib.hid (show parseN s = none from parse_not fun n h0 h1 e => by
    have h := HA.out
    rw [← e, atoi_itoa h0 h1] at h
    injection h with h
    subst h
    rw [e, ByteArray.toList_eq, beq_self_eq_true] at hq
    cases hq)
   go_wp2_with fail
   go_ret2
   exact BAD.out _ B2.out HP.out
end Go.Proofs.YtlogcealmiokkaaGreatDoor
