/- The walk through the law NumTexts. -/
import Derived.Test.YtgaphepkkpogmaaDoorNp1
namespace Go.Proofs.YtgaphepkkpogmaaDoor
open Go.RowKit

set_option maxRecDepth 100000 in
set_option maxHeartbeats 4000000 in
theorem numtexts_any (a : Int) (s : ByteArray) (w : World) (ha : I64 a) (ht : TabX w) (he : ErrX w) : Calls Tryd.prog 3 #[.int .i64 a, .string s] w fun e w' => e = .returned (.bool true) ∧ Below w.heap.size w w' := by
  have TX := Lib.hid ht
  have EX := Lib.hid he
  have HA := Lib.hid ha
  clear ht he
  by_cases hs : 4096 < (s.size : Int)
  · go_enter Tryd.func3, Tryd.ntmps3
    go_wp2_with fail
    go_ret
    exact ⟨rfl, Below.refl _ _⟩
  · have hs2 : s.size ≤ 4096 := by omega
    have CP := Lib.hid (pprint_any a w ha TX.out)
    have hl : (⟨(Lib.itoa a).toArray⟩ : ByteArray).size ≤ 21 := by
      have := Lib.itoa_length_le a ha.1 ha.2
      simpa [ByteArray.size] using this
    have PI := Lib.hid (parse_itoa (s := ⟨(Lib.itoa a).toArray⟩) rfl ha.1 ha.2)
    obtain ⟨t, htt⟩ : ∃ t : ByteArray, t = ⟨(Lib.itoa a).toArray⟩ := ⟨_, rfl⟩
    have HT := Lib.hid htt
    rw [← htt] at hl PI CP
    clear ha htt
    go_enter Tryd.func3, Tryd.ntmps3
    go_wp2_with fail
    refine CP.out.mono ?_
    rintro e w1 ⟨rfl, hb⟩
    have B1 := Lib.hid hb
    have CQ := Lib.hid (pparse_any t w1 (by omega) (TX.out.below hb) (EX.out.below hb))
    clear hb CP
    go_wp2_with fail
    refine CQ.out.mono ?_
    rintro e w2 ⟨⟨n, er, rfl, hn, hp⟩, hb⟩
    obtain ⟨rfl, rfl⟩ : er = 0 ∧ n = a := by
      rcases hp.out with ⟨h1, h2⟩ | ⟨_, _, h2⟩
      · rw [PI.out] at h2
        injection h2 with h2
        exact ⟨h1, h2.symm⟩
      · rw [PI.out] at h2; cases h2
    have B2 := Lib.hid (B1.out.trans (hb.mono B1.out.size))
    have CR := Lib.hid (pparse_any s w2 (by omega) (TX.out.below B2.out) (EX.out.below B2.out))
    clear hb CQ hp hn
    go_wp2_with fail
    refine CR.out.mono ?_
    rintro e w3 ⟨⟨m, er, rfl, hm, hp⟩, hb⟩
    have HP := Lib.hid hp.out
    have B3 := Lib.hid (B2.out.trans (hb.mono B2.out.size))
    have CS := Lib.hid (rparse_any s w3)
    clear hb CR hp hm
    go_wp2_with fail
    refine CS.out.mono ?_
    rintro e w4 ⟨⟨m2, er2, rfl, hm, hp⟩, rfl⟩
    obtain ⟨rfl, rfl⟩ : er2 = er ∧ m2 = m := by
      rcases hp.out with ⟨h1, h2⟩ | ⟨h1, h2, h3⟩
      · rcases HP.out with ⟨k1, k2⟩ | ⟨k1, k2, k3⟩
        · rw [h2] at k2; injection k2 with k2; exact ⟨by omega, k2⟩
        · rw [h2] at k3; cases k3
      · rcases HP.out with ⟨k1, k2⟩ | ⟨k1, k2, k3⟩
        · rw [h3] at k2; cases k2
        · exact ⟨by omega, by omega⟩
    have CT := Lib.hid (rprint_any n w3 HA.out.1 HA.out.2)
    clear CS hp hm
    go_wp2_with fail
    refine CT.out.mono ?_
    rintro e w5 ⟨⟨u, rfl, hu⟩, rfl⟩
    obtain rfl : u = t := by rw [HT.out]; apply ByteArray.ext; apply Array.toList_inj.1; exact hu
    clear CT hu
    go_wp2_with fail
    go_ret
    exact ⟨rfl, B3.out⟩
end Go.Proofs.YtgaphepkkpogmaaDoor
