/- The walk of ScriptLimits. -/
import Derived.Test.YtipddolkikhojaaDoorCwPrints
namespace Go.Proofs.YtipddolkikhojaaDoor
open Go.RowKit

theorem print_bad {p q t : List UInt8} {a b c d : Int} (h : lim4E a b c d ≠ 0) (hr : printN p q (lim4F a b c d) = .ok t) : False := by
  unfold printN at hr
  rw [limOk4] at hr
  unfold lim4E at h
  cases hl : lim4 a b c d with
  | true => rw [hl] at h; exact h rfl
  | false => rw [hl] at hr; simp at hr
theorem print_bad1 {p q : List UInt8} {a b c d k : Int} (h : lim4E a b c d ≠ 0) (hr : printN p q (lim4F a b c d) = .error k) : k = 1 := by
  unfold printN at hr
  rw [limOk4] at hr
  unfold lim4E at h
  cases hl : lim4 a b c d with
  | true => rw [hl] at h; exact absurd rfl h
  | false => rw [hl] at hr; simp at hr; exact hr.symm
set_option maxRecDepth 100000 in
set_option maxHeartbeats 8000000 in
theorem scriptlimits_any (a b c d : Int) (q : ByteArray) (w : World) (ha : I64 a) (hb : I64 b) (hc : I64 c) (hd : I64 d) (mx : Int) (hm : w.cell? ⟨2, 0, none⟩ = some (.int .i64 mx)) (hW : WordsX w) (hT : TabX w) (hE : ErrX w) :
    Calls Tryd.prog 7 #[.agg #[.int .i64 a, .int .i64 b, .int .i64 c, .int .i64 d], .string q] w fun e w' => e = .returned (.bool true) ∧ Below w.heap.size w w' := by
  have BL := Lib.hid (belA (Below.refl w.heap.size w) (Obj.cells #[.int .i64 a, .int .i64 b, .int .i64 c, .int .i64 d] 36))
  have XL := Lib.hid (heap_alloc_new w (Obj.cells #[.int .i64 a, .int .i64 b, .int .i64 c, .int .i64 d] 36))
  obtain ⟨l0, l1, l2, l3⟩ := box4t XL.out
  have hmw := Lib.lt_of_cell hm
  have HW := Lib.hid hW
  have HT := Lib.hid hT
  have HE := Lib.hid hE
  have HM := Lib.hid hm
  have hl1 := heap_lt XL.out
  clear hW hT hE hm
  by_cases hlong : (4096 : Int) < (q.size : Int)
  · go_enter Tryd.func7, Tryd.ntmps7
    go_wp2_with fail
    go_ret
    exact ⟨rfl, BL.out⟩
  have hq : q.size ≤ 5000 := by omega
  have hp : (⟨#[]⟩ : ByteArray).size ≤ 5000 := by decide
  have BX := Lib.hid (belA BL.out (Obj.cells #[.string ⟨#[]⟩, .string q, .int .i64 a, .int .i64 b, .int .i64 c, .int .i64 d] 38))
  have XB := Lib.hid (show ((w.alloc (Obj.cells #[.int .i64 a, .int .i64 b, .int .i64 c, .int .i64 d] 36)).alloc (Obj.cells #[.string ⟨#[]⟩, .string q, .int .i64 a, .int .i64 b, .int .i64 c, .int .i64 d] 38)).heap[w.heap.size + 1]? = some (Obj.cells #[.string ⟨#[]⟩, .string q, .int .i64 a, .int .i64 b, .int .i64 c, .int .i64 d] 38) from alloc_at _ _ (World.size_alloc _ _).symm)
  have XL1 := Lib.hid ((Below.heap_alloc _ (Obj.cells #[.string ⟨#[]⟩, .string q, .int .i64 a, .int .i64 b, .int .i64 c, .int .i64 d] 38) _ hl1).trans XL.out)
  have hx1 := heap_lt XB.out
  obtain ⟨t, k, hres⟩ := print_res ⟨#[]⟩ q (lim4F a b c d)
  have hres' : (printN (⟨#[]⟩ : ByteArray).data.toList q.data.toList (lim4F a b c d) = .ok t.data.toList ∧ k = 0) ∨ (printN (⟨#[]⟩ : ByteArray).data.toList q.data.toList (lim4F a b c d) = .error k ∧ t = ⟨#[]⟩) := hres.imp id fun h => ⟨h.1, h.2.1⟩
  have HR := Lib.hid hres
  have CP := Lib.hid (fun (W : World) (h : Below w.heap.size w W) => (sprint_any ⟨#[]⟩ q a b c d W hp hq ha hb hc hd (HW.out.below h) mx ((h.cell (p := ⟨2, 0, none⟩) hmw).trans HM.out) (HT.out.below h)).mono fun e w' h => print_fix hres' h)
  have CR := Lib.hid (fun (W : World) => (rprintS_any ⟨#[]⟩ q a b c d W hp hq ha hb hc hd).mono fun e w' h => print_fix hres' h)
  have CT := Lib.hid (fun (W : World) => theirs_any ⟨#[]⟩ q a b c d W)
  have CK := Lib.hid (fun (W : World) => rcheck_any a b c d W)
  have htt : (t.toList == t.toList) = true := beq_self_eq_true _
  have C1 := Lib.hid (CP.out _ BX.out)
  have LIM := Lib.hid (And.intro ha (And.intro hb (And.intro hc hd)))
  have HPQ := Lib.hid (And.intro hp hq)
  clear hres hres' ha hb hc hd hp hq l0 l1 l2 l3 CP
  obtain ⟨l0, l1, l2, l3⟩ := box4t XL1.out
  obtain ⟨y0, y1, y2, y3, y4, y5⟩ := box6 XB.out
  go_enter Tryd.func7, Tryd.ntmps7
  go_wp2_with fail
  refine C1.out.mono ?_
  rintro e w1 ⟨rfl, hb1⟩
  have B1 := Lib.hid (BX.out.trans (hb1.mono BX.out.size))
  have X1 := Lib.hid ((hb1.block _ hx1).trans XB.out)
  have L1 := Lib.hid ((hb1.block _ (heap_lt XL1.out)).trans XL1.out)
  have C2 := Lib.hid (CK.out w1)
  clear hb1 C1 l0 l1 l2 l3 y0 y1 y2 y3 y4 y5 hx1
  obtain ⟨l0, l1, l2, l3⟩ := box4t L1.out
  by_cases hk0 : lim4E a b c d = 0
  · rw [hk0] at C2
    clear hk0
    go_wp2_with fail
    refine C2.out.mono ?_
    rintro e w2 ⟨rfl, hb2⟩
    have B2 := Lib.hid (B1.out.trans (hb2.mono B1.out.size))
    have X2 := Lib.hid ((hb2.block _ (heap_lt X1.out)).trans X1.out)
    have L2 := Lib.hid ((hb2.block _ (heap_lt L1.out)).trans L1.out)
    have C3 := Lib.hid (CT.out w2)
    clear hb2 C2 l0 l1 l2 l3
    obtain ⟨l0, l1, l2, l3⟩ := box4t L2.out
    obtain ⟨y0, y1, y2, y3, y4, y5⟩ := box6 X2.out
    go_wp2_with fail
    refine C3.out.mono ?_
    rintro e w3 ⟨rfl, hb3⟩
    have B3 := Lib.hid (B2.out.trans (hb3.mono B2.out.size))
    have X3 := Lib.hid ((hb3.block _ (heap_lt X2.out)).trans X2.out)
    have L3 := Lib.hid ((hb3.block _ (heap_lt L2.out)).trans L2.out)
    have C4 := Lib.hid (CR.out w3)
    clear hb3 C3 l0 l1 l2 l3 y0 y1 y2 y3 y4 y5
    go_wp2_with fail
    refine C4.out.mono ?_
    rintro e w4 ⟨rfl, hb4⟩
    have B4 := Lib.hid (B3.out.trans (hb4.mono B3.out.size))
    have L4 := Lib.hid ((hb4.block _ (heap_lt L3.out)).trans L3.out)
    have hts : t.size ≤ 50000 := by
      rcases HR.out with ⟨hpr, rfl⟩ | ⟨hpr, rfl, hk⟩
      · obtain ⟨ha, hb, hc, hd⟩ := LIM.out
        have h1 := print_len ha hb hc hd hpr (by rw [Array.length_toList]; exact HPQ.out.1) (by rw [Array.length_toList]; exact HPQ.out.2)
        rw [Array.length_toList] at h1
        exact h1
      · decide
    have C5 := Lib.hid (sparse_any t w4 hts (HW.out.below B4.out) mx ((B4.out.cell (p := ⟨2, 0, none⟩) hmw).trans HM.out) (HT.out.below B4.out) (HE.out.below B4.out))
    clear hb4 C4 hts
    go_wp2_with fail
    refine C5.out.mono ?_
    rintro e w5 ⟨⟨pg, q', a', b', c', d', n, er, rfl, hres⟩, hb5⟩
    have B5 := Lib.hid (B4.out.trans (hb5.mono B4.out.size))
    have L5 := Lib.hid ((hb5.block _ (heap_lt L4.out)).trans L4.out)
    have BZ := Lib.hid (belA (Below.refl w5.heap.size w5) (Obj.cells #[.string pg, .string q', .int .i64 a', .int .i64 b', .int .i64 c', .int .i64 d'] 38))
    have L6 := Lib.hid ((BZ.out.block _ (heap_lt L5.out)).trans L5.out)
    have Z6 := Lib.hid (heap_alloc_new w5 (Obj.cells #[.string pg, .string q', .int .i64 a', .int .i64 b', .int .i64 c', .int .i64 d'] 38))
    have HS := Lib.hid hres
    clear hb5 hres C5
    obtain ⟨l0, l1, l2, l3⟩ := box4t L6.out
    obtain ⟨z0, z1, z2, z3, z4, z5⟩ := box6 Z6.out
    rcases HR.out with ⟨hpr, rfl⟩ | ⟨hpr, rfl, hk⟩
    · obtain ⟨st, hs0, hs1, hs2, hs3, hs4, hs5, hs6⟩ := print_back hpr
      obtain ⟨rfl, rfl, rfl, rfl, rfl⟩ : er = 0 ∧ a' = a ∧ b' = b ∧ c' = c ∧ d' = d := by
        rcases HS.out with ⟨h, _⟩ | ⟨st', h, h1, h2, h3, h4, h5, h6, h7, h8⟩
        · rw [hs0] at h; cases h
        · rw [hs0] at h
          injection h with h
          subst h
          exact ⟨h1, h5.trans hs3, h6.trans hs4, h7.trans hs5, h8.trans hs6⟩
      clear hpr hs0 hs1 hs2 hs3 hs4 hs5 hs6
      go_wp2_with fail
      go_ret
      exact ⟨rfl, B5.out.trans (BZ.out.mono B5.out.size)⟩
    · have hke : (k != 0) = true := by simpa using hk
      clear hpr
      go_wp2_with fail
      go_ret
      exact ⟨rfl, B5.out.trans (BZ.out.mono B5.out.size)⟩
  · obtain ⟨rfl, rfl⟩ : k = 1 ∧ t = ⟨#[]⟩ := by
      rcases HR.out with ⟨hpr, rfl⟩ | ⟨hpr, rfl, hk⟩
      · exact (print_bad hk0 hpr).elim
      · exact ⟨print_bad1 hk0 hpr, rfl⟩
    have hk1 : (lim4E a b c d != 0) = true := by simpa using hk0
    have he0 : ((⟨#[]⟩ : ByteArray).toList == []) = true := by rw [ByteArray.toList_eq]; rfl
    clear hk0
    go_wp2_with fail
    refine C2.out.mono ?_
    rintro e w2 ⟨rfl, hb2⟩
    have B2 := Lib.hid (B1.out.trans (hb2.mono B1.out.size))
    clear hb2 C2
    go_wp2_with fail
    go_ret
    exact ⟨rfl, B2.out⟩
end Go.Proofs.YtipddolkikhojaaDoor
