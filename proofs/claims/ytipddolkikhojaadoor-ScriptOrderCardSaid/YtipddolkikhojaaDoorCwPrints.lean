/- The walk of ScriptPrints. -/
import Derived.Test.YtipddolkikhojaaDoorRp
import Derived.Test.YtipddolkikhojaaDoorPs
namespace Go.Proofs.YtipddolkikhojaaDoor
open Go.RowKit

set_option maxRecDepth 100000 in
set_option maxHeartbeats 4000000 in
theorem long_any (p q : ByteArray) (a b c d : Int) (w : World) : Calls Tryd.prog 18 #[.agg #[.string p, .string q, .int .i64 a, .int .i64 b, .int .i64 c, .int .i64 d]] w fun e w' => e = .returned (.bool (decide (4096 < p.size ∨ 4096 < q.size))) ∧ Below w.heap.size w w' := by
  have BX := Lib.hid (belA (Below.refl w.heap.size w) (Obj.cells #[.string p, .string q, .int .i64 a, .int .i64 b, .int .i64 c, .int .i64 d] 38))
  obtain ⟨y0, y1, y2, y3, y4, y5⟩ := box6 (heap_alloc_new w (Obj.cells #[.string p, .string q, .int .i64 a, .int .i64 b, .int .i64 c, .int .i64 d] 38))
  by_cases hp : (4096 : Int) < (p.size : Int)
  · rw [decide_eq_true (.inl (by omega))]
    go_enter Tryd.func18, Tryd.ntmps18
    go_wp2
    go_ret
    exact ⟨rfl, BX.out⟩
  · by_cases hq : (4096 : Int) < (q.size : Int)
    · rw [decide_eq_true (.inr (by omega))]
      go_enter Tryd.func18, Tryd.ntmps18
      go_wp2
      go_ret
      exact ⟨rfl, BX.out⟩
    · rw [decide_eq_false (fun h => by omega)]
      go_enter Tryd.func18, Tryd.ntmps18
      go_wp2
      go_ret
      exact ⟨rfl, BX.out⟩
set_option maxRecDepth 100000 in
set_option maxHeartbeats 4000000 in
theorem theirs_any (p q : ByteArray) (a b c d : Int) (w : World) : Calls Tryd.prog 17 #[.agg #[.string p, .string q, .int .i64 a, .int .i64 b, .int .i64 c, .int .i64 d]] w fun e w' => e = .returned (.agg #[.string p, .string q, .int .i64 a, .int .i64 b, .int .i64 c, .int .i64 d]) ∧ Below w.heap.size w w' := by
  have BX := Lib.hid (belA (belA (Below.refl w.heap.size w) (Obj.cells #[.string p, .string q, .int .i64 a, .int .i64 b, .int .i64 c, .int .i64 d] 38)) (Obj.cells #[.string p, .string q, .int .i64 a, .int .i64 b, .int .i64 c, .int .i64 d] TRS))
  obtain ⟨y0, y1, y2, y3, y4, y5⟩ := box6 (heap_alloc_new w (Obj.cells #[.string p, .string q, .int .i64 a, .int .i64 b, .int .i64 c, .int .i64 d] 38))
  have hx := heap_alloc_new (w.alloc (Obj.cells #[.string p, .string q, .int .i64 a, .int .i64 b, .int .i64 c, .int .i64 d] 38)) (Obj.cells #[.string p, .string q, .int .i64 a, .int .i64 b, .int .i64 c, .int .i64 d] TRS)
  rw [World.size_alloc] at hx
  obtain ⟨z0, z1, z2, z3, z4, z5⟩ := box6 hx
  go_enter Tryd.func17, Tryd.ntmps17
  go_wp2
  refine bodyPost_ret (v := .agg #[.string p, .string q, .int .i64 a, .int .i64 b, .int .i64 c, .int .i64 d]) (by simp [results, go_sem, z0, z1, z2, z3, z4, z5]) rfl ?_
  exact ⟨rfl, BX.out⟩
/-- What Print hands back, in the words of a law. -/
theorem print_fix {p q : ByteArray} {f : Nat → Int} {w w' : World} {e : Ending} {t : ByteArray} {k : Int} (h : (printN p.data.toList q.data.toList f = .ok t.data.toList ∧ k = 0) ∨ (printN p.data.toList q.data.toList f = .error k ∧ t = ⟨#[]⟩)) (hp : PrintE p q f w e w') : e = .returned (.tuple #[.string t, .int .i64 k]) ∧ Below w.heap.size w w' := by
  obtain ⟨⟨t', k', rfl, h'⟩, hb⟩ := hp
  refine ⟨?_, hb⟩
  rcases h with ⟨h1, rfl⟩ | ⟨h1, rfl⟩ <;> rcases h' with ⟨h2, rfl⟩ | ⟨h2, rfl⟩
  · rw [h1] at h2
    injection h2 with h2
    rw [bytes_same h2]
  · rw [h1] at h2; cases h2
  · rw [h1] at h2; cases h2
  · rw [h1] at h2
    injection h2 with h2
    rw [h2]
theorem print_res (p q : ByteArray) (f : Nat → Int) : ∃ (t : ByteArray) (k : Int), (printN p.data.toList q.data.toList f = .ok t.data.toList ∧ k = 0) ∨ (printN p.data.toList q.data.toList f = .error k ∧ t = ⟨#[]⟩ ∧ k ≠ 0) := by
  cases h : printN p.data.toList q.data.toList f with
  | ok t => exact ⟨ba t, 0, .inl ⟨by simp [ba], rfl⟩⟩
  | error k =>
    refine ⟨⟨#[]⟩, k, .inr ⟨rfl, rfl, ?_⟩⟩
    unfold printN at h
    split at h
    · injection h with h; omega
    · split at h
      · injection h with h; omega
      · cases h
theorem joinB_eq : ∀ ls : List (List UInt8), (joinL (ls.map fun l => barW ++ l)).length = (joinL ls).length + 2 * ls.length
  | [] => rfl
  | l :: ls => by
    have h1 := joinB_eq ls
    have hb : barW.length = 2 := rfl
    rw [List.map_cons, joinL_cons, joinL_cons]
    simp only [List.length_append, List.length_cons]
    omega
theorem print_len {p q t : List UInt8} {a b c d : Int} (ha : I64 a) (hb : I64 b) (hc : I64 c) (hd : I64 d) (h : printN p q (lim4F a b c d) = .ok t) (hp : p.length ≤ 5000) (hq : q.length ≤ 5000) : t.length ≤ 50000 := by
  unfold printN at h
  split at h
  · cases h
  · split at h
    · cases h
    · rename_i h1
      have h3 : p = [] ∨ p.getLast? = some 10 := by
        rcases Classical.em (p = [] ∨ p.getLast? = some 10) with h | h
        · exact h
        · exact absurd (.inr h) h1
      injection h with h
      rw [← h, print_text]
      have e1 := joinB_eq (linesL p)
      rw [join_lines _ p (Nat.le_refl _) h3] at e1
      have e2 := lines_len p
      have e3 := preL_len ha hb hc hd 4 (by omega)
      have e4 : askW.length = 2 := rfl
      simp only [List.length_append, List.length_cons, List.length_nil]
      omega
theorem ba_inv (s : ByteArray) : ba s.data.toList = s := by obtain ⟨l⟩ := s; simp [ba]
set_option maxRecDepth 100000 in
set_option maxHeartbeats 8000000 in
theorem scriptprints_any (p q : ByteArray) (a b c d : Int) (w : World) (ha : I64 a) (hb : I64 b) (hc : I64 c) (hd : I64 d) (mx : Int) (hm : w.cell? ⟨2, 0, none⟩ = some (.int .i64 mx)) (hW : WordsX w) (hT : TabX w) (hE : ErrX w) :
    Calls Tryd.prog 6 #[.agg #[.string p, .string q, .int .i64 a, .int .i64 b, .int .i64 c, .int .i64 d]] w fun e w' => e = .returned (.bool true) ∧ Below w.heap.size w w' := by
  have BX := Lib.hid (belA (Below.refl w.heap.size w) (Obj.cells #[.string p, .string q, .int .i64 a, .int .i64 b, .int .i64 c, .int .i64 d] 38))
  have XB := Lib.hid (heap_alloc_new w (Obj.cells #[.string p, .string q, .int .i64 a, .int .i64 b, .int .i64 c, .int .i64 d] 38))
  obtain ⟨y0, y1, y2, y3, y4, y5⟩ := box6 XB.out
  have CLg := Lib.hid (long_any p q a b c d (w.alloc (Obj.cells #[.string p, .string q, .int .i64 a, .int .i64 b, .int .i64 c, .int .i64 d] 38)))
  have hmw := Lib.lt_of_cell hm
  have HW := Lib.hid hW
  have HT := Lib.hid hT
  have HE := Lib.hid hE
  have HM := Lib.hid hm
  have hl1 := heap_lt XB.out
  clear hW hT hE hm
  by_cases hlong : 4096 < p.size ∨ 4096 < q.size
  · rw [decide_eq_true hlong] at CLg
    clear hlong
    go_enter Tryd.func6, Tryd.ntmps6
    go_wp2_with fail
    refine CLg.out.mono ?_
    rintro e w1 ⟨rfl, hb1⟩
    have B1 := Lib.hid (BX.out.trans (hb1.mono BX.out.size))
    clear hb1
    go_wp2_with fail
    go_ret
    exact ⟨rfl, B1.out⟩
  rw [decide_eq_false hlong] at CLg
  have hp : p.size ≤ 5000 := by omega
  have hq : q.size ≤ 5000 := by omega
  clear hlong
  obtain ⟨t, k, hres⟩ := print_res p q (lim4F a b c d)
  have hres' : (printN p.data.toList q.data.toList (lim4F a b c d) = .ok t.data.toList ∧ k = 0) ∨ (printN p.data.toList q.data.toList (lim4F a b c d) = .error k ∧ t = ⟨#[]⟩) := hres.imp id fun h => ⟨h.1, h.2.1⟩
  have HR := Lib.hid hres
  have CP := Lib.hid (fun (W : World) (h : Below w.heap.size w W) => (sprint_any p q a b c d W hp hq ha hb hc hd (HW.out.below h) mx ((h.cell (p := ⟨2, 0, none⟩) hmw).trans HM.out) (HT.out.below h)).mono fun e w' h => print_fix hres' h)
  have CR := Lib.hid (fun (W : World) => (rprintS_any p q a b c d W hp hq ha hb hc hd).mono fun e w' h => print_fix hres' h)
  have CT := Lib.hid (fun (W : World) => theirs_any p q a b c d W)
  have htt : (t.toList == t.toList) = true := beq_self_eq_true _
  clear hres hres'
  go_enter Tryd.func6, Tryd.ntmps6
  go_wp2_with fail
  refine CLg.out.mono ?_
  rintro e w1 ⟨rfl, hb1⟩
  have B1 := Lib.hid (BX.out.trans (hb1.mono BX.out.size))
  have X1 := Lib.hid ((hb1.block _ hl1).trans XB.out)
  have C1 := Lib.hid (CP.out w1 B1.out)
  have hx1 := heap_lt X1.out
  clear hb1 CLg y0 y1 y2 y3 y4 y5
  obtain ⟨y0, y1, y2, y3, y4, y5⟩ := box6 X1.out
  go_wp2_with fail
  refine C1.out.mono ?_
  rintro e w2 ⟨rfl, hb2⟩
  have B2 := Lib.hid (B1.out.trans (hb2.mono B1.out.size))
  have X2 := Lib.hid ((hb2.block _ hx1).trans X1.out)
  have C2 := Lib.hid (CT.out w2)
  have hx2 := heap_lt X2.out
  clear hb2 C1 y0 y1 y2 y3 y4 y5
  obtain ⟨y0, y1, y2, y3, y4, y5⟩ := box6 X2.out
  go_wp2_with fail
  refine C2.out.mono ?_
  rintro e w3 ⟨rfl, hb3⟩
  have B3 := Lib.hid (B2.out.trans (hb3.mono B2.out.size))
  have X3 := Lib.hid ((hb3.block _ hx2).trans X2.out)
  have C3 := Lib.hid (CR.out w3)
  have hx3 := heap_lt X3.out
  clear hb3 C2 y0 y1 y2 y3 y4 y5
  go_wp2_with fail
  refine C3.out.mono ?_
  rintro e w4 ⟨rfl, hb4⟩
  have B4 := Lib.hid (B3.out.trans (hb4.mono B3.out.size))
  have X4 := Lib.hid ((hb4.block _ hx3).trans X3.out)
  have hx4 := heap_lt X4.out
  clear hb4 C3
  obtain ⟨y0, y1, y2, y3, y4, y5⟩ := box6 X4.out
  rcases HR.out with ⟨hpr, rfl⟩ | ⟨hpr, rfl, hk⟩
  · have hts : t.size ≤ 50000 := by
      have h1 := print_len ha hb hc hd hpr (by rw [Array.length_toList]; exact hp) (by rw [Array.length_toList]; exact hq)
      rw [Array.length_toList] at h1
      exact h1
    obtain ⟨st, hs0, hs1, hs2, hs3, hs4, hs5, hs6⟩ := print_back hpr
    have HPB := Lib.hid (show scriptN t.data.toList = .ok st ∧ ba st.prog = p ∧ ba st.query = q ∧ st.lim 0 = a ∧ st.lim 1 = b ∧ st.lim 2 = c ∧ st.lim 3 = d from ⟨hs0, by rw [hs1, ba_inv], by rw [hs2, ba_inv], hs3, hs4, hs5, hs6⟩)
    have C4 := Lib.hid (sparse_any t w4 hts (HW.out.below B4.out) mx ((B4.out.cell (p := ⟨2, 0, none⟩) hmw).trans HM.out) (HT.out.below B4.out) (HE.out.below B4.out))
    clear hpr hs0 hs1 hs2 hs3 hs4 hs5 hs6 hts
    go_wp2_with fail
    refine C4.out.mono ?_
    rintro e w5 ⟨⟨pg, q', a', b', c', d', n, er, rfl, hres⟩, hb5⟩
    obtain ⟨rfl, rfl, rfl, rfl, rfl, rfl, rfl, rfl⟩ : er = 0 ∧ n = 0 ∧ pg = p ∧ q' = q ∧ a' = a ∧ b' = b ∧ c' = c ∧ d' = d := by
      obtain ⟨hz, z1, z2, z3, z4, z5, z6⟩ := HPB.out
      rcases hres with ⟨h, _⟩ | ⟨st', h, h1, h2, h3, h4, h5, h6, h7, h8⟩
      · rw [hz] at h; cases h
      · rw [hz] at h
        injection h with h
        subst h
        exact ⟨h1, h2, h3.trans z1, h4.trans z2, h5.trans z3, h6.trans z4, h7.trans z5, h8.trans z6⟩
    have B5 := Lib.hid (B4.out.trans (hb5.mono B4.out.size))
    have X5 := Lib.hid ((hb5.block _ hx4).trans X4.out)
    have BZ := Lib.hid (belA (Below.refl w5.heap.size w5) (Obj.cells #[.string pg, .string q', .int .i64 a', .int .i64 b', .int .i64 c', .int .i64 d'] 38))
    have X6 := Lib.hid ((BZ.out.block _ (heap_lt X5.out)).trans X5.out)
    have Z6 := Lib.hid (heap_alloc_new w5 (Obj.cells #[.string pg, .string q', .int .i64 a', .int .i64 b', .int .i64 c', .int .i64 d'] 38))
    clear hb5 hres C4 y0 y1 y2 y3 y4 y5
    obtain ⟨y0, y1, y2, y3, y4, y5⟩ := box6 X6.out
    obtain ⟨z0, z1, z2, z3, z4, z5⟩ := box6 Z6.out
    go_wp2_with fail
    go_ret
    exact ⟨rfl, B5.out.trans (BZ.out.mono B5.out.size)⟩
  · have hke : (k != 0) = true := by simpa using hk
    have he0 : ((⟨#[]⟩ : ByteArray).toList == []) = true := by rw [ByteArray.toList_eq]; rfl
    clear hpr
    go_wp2_with fail
    go_ret
    exact ⟨rfl, B4.out⟩
end Go.Proofs.YtipddolkikhojaaDoor
