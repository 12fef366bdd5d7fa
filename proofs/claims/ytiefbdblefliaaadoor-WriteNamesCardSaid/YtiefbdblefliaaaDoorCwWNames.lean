/- The walk of WriteNames. -/
import Derived.Test.YtiefbdblefliaaaDoorWn1
import Derived.Test.YtiefbdblefliaaaDoorCwWBack
namespace Go.Proofs.YtiefbdblefliaaaDoor
open Go.RowKit

theorem own_nm {w : World} {lo nn nc : Nat} {NA : Option Addr} {ns : List ByteArray} (h : w.ownsRow lo 9 1 (.slice NA nn nc) nn (ns.map Value.string)) : NmIn w w.heap.size ns (.slice NA nn nc) ∧ nn = ns.length := by
  have hl := own_len h
  obtain ⟨A, c, e, _, _, _, hx⟩ := own_open h
  injection e with e1 _ e3
  subst e1 e3
  have hn : nn = ns.length := by simpa using hl.symm
  refine ⟨⟨NA, nc, by rw [hn], fun h0 => ?_⟩, hn⟩
  obtain ⟨g, cur, rfl, _, hh, hcur⟩ := hx (by omega)
  refine ⟨g, 0, rfl, heap_lt hh, fun i hi => ?_⟩
  rw [Nat.zero_add, cell_of_row w g i _ _ _ hh, hcur i (by omega), List.getElem?_map, List.getElem?_eq_getElem hi]
  rfl
/-- What One answers, as the law of names wants it. -/
theorem one_termN {s : ByteArray} {w w' : World} {k n : Int} {nm : ByteArray} {A : Option Addr} {m c : Nat} {NA : Option Addr} {nn nc : Nat} {p er : Int}
    (h0 : er = 0 → ∃ (t : T) (ns : List ByteArray), sentN s = .ok (t, ns) ∧ TP w' (fun b => w.heap.size ≤ b) t (.agg #[.int .i64 k, .int .i64 n, .string nm, .slice A m c]) ∧ t.good ∧ t.nodes ≤ 1000 ∧ w'.ownsRow w.heap.size 9 1 (.slice NA nn nc) nn (ns.map Value.string) ∧ nn ≤ 1000)
    (h1 : er ≠ 0 → sentN s = .error (p, er) ∧ k = 0 ∧ n = 0 ∧ nm = ⟨#[]⟩ ∧ A = none ∧ m = 0 ∧ c = 0 ∧ NA = none ∧ nn = 0 ∧ nc = 0) :
    ∃ (t : T) (ns : List ByteArray), GT w' w'.heap.size t (.agg #[.int .i64 k, .int .i64 n, .string nm, .slice A m c]) ∧ t.fit ∧ t.nodes ≤ 1000 ∧ NmIn w' w'.heap.size ns (.slice NA nn nc) ∧ nn = ns.length ∧ nn ≤ 1000 ∧ NamesFit ns ∧ (er = 0 → sentN s = .ok (t, ns)) ∧ (er ≠ 0 → ¬ t.goodW) := by
  by_cases he : er = 0
  · obtain ⟨t, ns, h2, h3, h4, h5, h6, h7⟩ := h0 he
    obtain ⟨h8, h9⟩ := own_nm h6
    exact ⟨t, ns, h3.gt, good_fit h4, h5, h8, h9, h7, ⟨by omega, fun x hx => by have := ((sent_names h2).2.2 x hx).2; omega⟩, fun _ => h2, fun h => absurd he h⟩
  · obtain ⟨h2, rfl, rfl, rfl, rfl, rfl, rfl, rfl, rfl, rfl⟩ := h1 he
    refine ⟨.mk 0 0 ⟨#[]⟩ 0 fun _ => .nil, [], (TP.leaf w' (fun _ => True) 0 0 ⟨#[]⟩).gt, ⟨⟨by decide, by decide⟩, by decide, fun i h => absurd h (by omega)⟩, by decide, NmIn.none _ _, rfl, by omega, namesFit_nil, fun h => absurd h he, fun _ h => ?_⟩
    rcases h.1 with h | h | h | h
    · exact absurd h.1 (by decide)
    · exact absurd h (by decide)
    · exact absurd h.1 (by decide)
    · exact absurd h.1 (by decide)
theorem NmIn.at {w : World} {S : Nat} {ns : List ByteArray} {NA : Option Addr} {nn nc : Nat} (h : NmIn w S ns (.slice NA nn nc)) {i : Nat} (hi : i < ns.length) : ∃ g o, NA = some ⟨g, o, Option.none⟩ ∧ g < S ∧ w.cell? ⟨g, o + i, Option.none⟩ = some (.string (ns[i]'hi)) := by
  obtain ⟨A, c, e, hx⟩ := h
  injection e with e1 e2 e3
  subst e1
  obtain ⟨g, o, h1, h2, h3⟩ := hx (by omega)
  exact ⟨g, o, h1, h2, h3 i hi⟩
theorem prw_id {w : World} {A : Option Addr} {m c n : Nat} (h : PRw w (.slice A m c) (idP n)) : m = n ∧ m ≤ c ∧ (A = none → c = 0) ∧ ∀ i, i < n → ∃ b off, A = some ⟨b, off, none⟩ ∧ w.cell? ⟨b, off + i * 2, none⟩ = some (.int .i64 (i : Int)) ∧ w.cell? ⟨b, off + (i * 2 + 1), none⟩ = some (.int .i64 (i : Int)) := by
  obtain ⟨h1, h2, h3, h4⟩ := h.all
  have hl : (idP n).length = n := by simp [idP]
  refine ⟨by omega, h2, h3, fun i hi => ?_⟩
  obtain ⟨b, off, rfl, h5⟩ := h4 (by omega)
  obtain ⟨g1, g2⟩ := pCells_at (idP n) i ((i : Int), (i : Int)) (by rw [idP_at, if_pos hi])
  exact ⟨b, off, rfl, h5 _ _ g1, h5 _ _ g2⟩
theorem us_eq (x : ByteArray) : (x.toList == [95]) = true → x = usS := fun h => by
  have h : x.toList = [95] := by simpa using h
  rw [ByteArray.toList_eq] at h
  obtain ⟨⟨l⟩⟩ := x
  have h : l = [95] := h
  subst h
  rfl
theorem us_self : (usS.toList == [95]) = true := by
  rw [ByteArray.toList_eq]
  rfl
set_option maxRecDepth 100000 in
set_option maxHeartbeats 16000000 in
theorem writenames_any (s : ByteArray) (w : World) (hT : TabX w) :
    Calls Tryd.prog 3 #[.string s] w fun e w' => e = .returned (.bool true) ∧ Below w.heap.size w w' := by
  by_cases hbig : (2048 : Int) < (s.size : Int)
  · go_enter Tryd.func3, Tryd.ntmps3
    go_wp2_with fail
    go_ret
    exact ⟨rfl, Below.refl _ _⟩
  have HTX := Lib.hid hT
  have CO := Lib.hid (onexn_any s w)
  clear hT
  go_enter Tryd.func3, Tryd.ntmps3
  go_wp2_with fail
  refine CO.out.mono ?_
  rintro e w1 ⟨⟨k, n, nm, A, m, c, NA, nn, nc, p, er, rfl, h0, h1⟩, hb1⟩
  have B1 := Lib.hid hb1
  obtain ⟨t, ns, hg, hf, hn, hnm, hnn, hn1, hnf, hok, hbad⟩ := one_termN h0.out h1.out
  have G1 := Lib.hid hg
  have HF := Lib.hid hf
  have HNM := Lib.hid hnm
  have HNF := Lib.hid hnf
  have HNN := Lib.hid hnn
  have HOK := Lib.hid hok
  have HBAD := Lib.hid hbad
  clear hb1 h0 h1 hg hok hbad CO hnm hnf hnn
  obtain ⟨s0, hs0⟩ := text_of ns t
  have HS0 := Lib.hid hs0
  have hse := text_empty hs0 hf
  have BA := Lib.hid (belA (Below.refl w1.heap.size w1) (Obj.cells #[.int .i64 k, .int .i64 n, .string nm, .slice A m c, .slice NA nn nc] 27))
  have XA := Lib.hid (heap_alloc_new w1 (Obj.cells #[.int .i64 k, .int .i64 n, .string nm, .slice A m c, .slice NA nn nc] 27))
  obtain ⟨y0, y1, y2, y3, y4⟩ := box5 XA.out
  have CP := Lib.hid ((pnamed_any HNF.out (by omega) hf _ _ _ _ (G1.out.below BA.out) (HNM.out.low (Nat.le_refl _) BA.out) ((HTX.out.below B1.out).below BA.out)).mono fun e w' h => nm_fix HS0.out h)
  clear hs0
  go_wp2_with fail
  refine CP.out.mono ?_
  rintro e w2 ⟨rfl, hb2⟩
  have B2 := Lib.hid (BA.out.trans (hb2.mono BA.out.size))
  have X2 := Lib.hid ((hb2.block w1.heap.size (by simp)).trans XA.out)
  clear y0 y1 y2 y3 y4
  obtain ⟨x0, x1, x2, x3, x4⟩ := box5 X2.out
  have hx2 := heap_lt X2.out
  have CR := Lib.hid ((rnamed_any HNF.out (by omega) HF.out _ _ _ w2 (G1.out.below B2.out) (HNM.out.low (Nat.le_refl _) B2.out)).mono fun e w' h => nm_fix HS0.out h)
  have hss : (s0.toList == s0.toList) = true := beq_self_eq_true _
  clear hb2 CP hf
  go_wp2_with fail
  refine CR.out.mono ?_
  rintro e w3 ⟨rfl, hb3⟩
  have B3 := Lib.hid (B2.out.trans (hb3.mono B2.out.size))
  have X3 := Lib.hid ((hb3.block _ hx2).trans X2.out)
  have hx3 := heap_lt X3.out
  have W3 := Lib.hid (B1.out.trans (B3.out.mono B1.out.size))
  clear hb3 CR x0 x1 x2 x3 x4
  obtain ⟨x0, x1, x2, x3, x4⟩ := box5 X3.out
  by_cases he : er = 0
  · subst he
    rcases hse with ⟨hse, hgd, hwr, hs0⟩ | ⟨hse, hgd⟩
    · have HBK := Lib.hid (fun hus => names_back (HOK.out rfl) hwr hus hs0)
      have HN3 := Lib.hid (HNM.out.low (Nat.le_refl _) B3.out)
      clear hs0 hgd hwr
      go_wp2_with fail
      go_loopw [7] (fun iv wr => ∃ i : Nat, iv = .int .i64 (i : Int) ∧ i ≤ nn ∧ Hid (∀ q (x : ByteArray), q < i → ns[q]? = some x → x ≠ usS) ∧ w3 = wr) (fun iv _ => nn - (intOf iv).toNat)
      case atStart => exact ⟨0, rfl, Nat.zero_le _, Lib.hid (fun q x h => absurd h (by omega)), rfl⟩
      case round =>
        obtain ⟨i, rfl, hi, hq, rfl⟩ := hrel
        have HQ := Lib.hid hq.out
        clear hq
        by_cases him : i < nn
        · have him' : (i : Int) < (nn : Int) := by omega
          obtain ⟨g, o, rfl, hgl, hc⟩ := HN3.out.at (i := i) (by have := HNN.out; omega)
          obtain ⟨x, hx⟩ : ∃ x, ns[i]'(by have := HNN.out; omega) = x := ⟨_, rfl⟩
          rw [hx] at hc
          have HX := Lib.hid (show ns[i]? = some x by rw [List.getElem?_eq_getElem (by have := HNN.out; omega), hx])
          clear hx
          have hgl1 : g < w3.heap.size := by have := B3.out.size; omega
          cases hus : (x.toList == [95]) with
          | true =>
            go_wp2_with fail
            go_ret
            exact ⟨rfl, W3.out⟩
          | false =>
            have HQ2 := Lib.hid (show ∀ q (y : ByteArray), q < i + 1 → ns[q]? = some y → y ≠ usS from fun q y hqi hy => by
              rcases Nat.lt_or_ge q i with h | h
              · exact HQ.out q y h hy
              · obtain rfl : q = i := by omega
                rw [HX.out] at hy
                injection hy with hy
                subst hy
                rintro rfl
                exact absurd hus (by rw [us_self]; decide))
            go_wp2_with fail
            go_roundw
            case rel => exact ⟨i + 1, by go_num, him, HQ2, trivial⟩
            case measure => simp [intOf]; omega
        · have him' : ¬ (i : Int) < (nn : Int) := by omega
          obtain rfl : nn = i := by omega
          have HB := Lib.hid (HBK.out fun hm => by
            obtain ⟨q, hq⟩ := List.mem_iff_getElem?.1 hm
            have hql : q < ns.length := (List.getElem?_eq_some_iff.1 hq).1
            exact HQ.out q usS (by have := HNN.out; omega) hq rfl)
          have C2 := Lib.hid (onexn_any s0 w3)
          clear HBK HQ
          go_wp2_with fail
          refine C2.out.mono ?_
          rintro e w4 ⟨⟨k2, n2, nm2, A2, m2, c2, NA2, nn2, nc2, p2, er2, rfl, h0, h1⟩, hb4⟩
          have B4 := Lib.hid (B3.out.trans (hb4.mono B3.out.size))
          have W4 := Lib.hid (W3.out.trans (hb4.mono W3.out.size))
          have X4 := Lib.hid ((hb4.block _ hx3).trans X3.out)
          have hx4 := heap_lt X4.out
          by_cases he2 : er2 = 0
          · subst he2
            obtain ⟨u, ns2, h2, h3, h4, h5, h6, h7⟩ := h0.out rfl
            obtain ⟨rfl, hq⟩ : ns2 = ns ∧ Alk t u [] (idP nn) := by
              rcases HB.out with ⟨_, _, h8, _⟩ | ⟨u', h8, h9⟩
              · rw [h8] at h2; cases h2
              · rw [h8] at h2
                injection h2 with h2
                injection h2 with h2 h10
                subst h2 h10
                rw [← HNN.out] at h9
                exact ⟨rfl, h9⟩
            obtain ⟨h8, h9⟩ := own_nm h6
            obtain rfl : nn2 = nn := h9.trans HNN.out.symm
            have BZ := Lib.hid (belA (Below.refl w4.heap.size w4) (Obj.cells #[.int .i64 k2, .int .i64 n2, .string nm2, .slice A2 m2 c2, .slice NA2 nn2 nc2] 27))
            have X5 := Lib.hid ((BZ.out.block _ hx4).trans X4.out)
            have Z5 := Lib.hid (heap_alloc_new w4 (Obj.cells #[.int .i64 k2, .int .i64 n2, .string nm2, .slice A2 m2 c2, .slice NA2 nn2 nc2] 27))
            have W5 := Lib.hid (W4.out.trans (BZ.out.mono W4.out.size))
            have N5 := Lib.hid (HNM.out.low (Nat.le_refl _) (B4.out.trans (BZ.out.mono B4.out.size)))
            have M5 := Lib.hid (h8.low (Nat.le_refl _) BZ.out)
            have CA := Lib.hid (fun W (k : Below (w4.alloc (Obj.cells #[.int .i64 k2, .int .i64 n2, .string nm2, .slice A2 m2 c2, .slice NA2 nn2 nc2] 27)).heap.size (w4.alloc (Obj.cells #[.int .i64 k2, .int .i64 n2, .string nm2, .slice A2 m2 c2, .slice NA2 nn2 nc2] 27)) W) => alike_any t u [] (idP nn2) _ _ _ _ _ W hq ((G1.out.below (B4.out.trans (BZ.out.mono B4.out.size))).below k) ((h3.gt.below BZ.out).below k) (PRw.nil _) (by simp; omega))
            clear x0 x1 x2 x3 x4
            have hw46 := BZ.out.size
            have hw16 : w1.heap.size ≤ _ := Nat.le_trans B4.out.size hw46
            obtain ⟨p0, p1, p2', p3, p4⟩ := box5 X5.out
            obtain ⟨r0, r1, r2, r3, r4⟩ := box5 Z5.out
            obtain ⟨W6, hW6⟩ : ∃ W6, w4.alloc (Obj.cells #[.int .i64 k2, .int .i64 n2, .string nm2, .slice A2 m2 c2, .slice NA2 nn2 nc2] 27) = W6 := ⟨_, rfl⟩
            have HW6 := Lib.hid hW6
            rw [hW6] at X5 Z5 W5 N5 M5 CA hw46 hw16
            have hzl := heap_lt Z5.out
            obtain ⟨x0, x1, x2, x3, x4⟩ := box5 X5.out
            obtain ⟨z0, z1, z2, z3, z4⟩ := box5 Z5.out
            clear h0 h1 h2 h3 h4 h5 h6 h8 h9 hb4 C2 hq hW6
            go_wp2_with fail
            rw [HW6.out]
            clear p0 p1 p2' p3 p4 r0 r1 r2 r3 r4
            go_loopw [11] (fun iv wr => ∃ i : Nat, iv = .int .i64 (i : Int) ∧ i ≤ nn2 ∧ Below W6.heap.size W6 wr) (fun iv _ => nn2 - (intOf iv).toNat)
            case atStart => exact ⟨0, rfl, Nat.zero_le _, Below.refl _ _⟩
            case round =>
              obtain ⟨i, rfl, hi, hb⟩ := hrel
              have HB6 := Lib.hid hb
              have X6 := Lib.hid ((hb.block _ (heap_lt X5.out)).trans X5.out)
              have Z6 := Lib.hid ((hb.block _ (heap_lt Z5.out)).trans Z5.out)
              clear x0 x1 x2 x3 x4 z0 z1 z2 z3 z4
              obtain ⟨x0, x1, x2, x3, x4⟩ := box5 X6.out
              obtain ⟨z0, z1, z2, z3, z4⟩ := box5 Z6.out
              have hxl6 := heap_lt X6.out
              have hzl6 := heap_lt Z6.out
              clear hb
              by_cases him : i < nn2
              · have him' : (i : Int) < (nn2 : Int) := by omega
                obtain ⟨g, o, rfl, hgl, hc⟩ := (N5.out.low hw16 HB6.out).at (i := i) (by have := HNN.out; omega)
                obtain ⟨g', o', rfl, hgl', hc'⟩ := (M5.out.low hw46 HB6.out).at (i := i) (by have := HNN.out; omega)
                obtain ⟨x, hx⟩ : ∃ x, ns2[i]'(by have := HNN.out; omega) = x := ⟨_, rfl⟩
                rw [hx] at hc hc'
                have hxx : (x.toList == x.toList) = true := beq_self_eq_true _
                have B7 := Lib.hid HB6.out.drew
                clear hx
                go_wp2_with fail
                go_region
                all_goals
                  go_wp2_with fail
                  go_roundw
                  case rel => exact ⟨i + 1, by go_num, him, B7.out⟩
                  case measure => simp [intOf]; omega
              · have him' : ¬ (i : Int) < (nn2 : Int) := by omega
                have C7 := Lib.hid (CA.out _ HB6.out)
                have W7 := Lib.hid (W5.out.trans (HB6.out.mono W5.out.size))
                clear CA
                go_wp2_with fail
                refine C7.out.mono ?_
                rintro e w8 ⟨v8, rfl, hp8, hb8⟩
                obtain ⟨PA, pm, pc, rfl⟩ : ∃ PA pm pc, v8 = .slice PA pm pc := by
                  obtain ⟨PA, pc, h1, _⟩ := hp8
                  exact ⟨_, _, _, h1⟩
                obtain ⟨hpm, hpc, hpn, hpx⟩ := prw_id hp8
                have W8 := Lib.hid (W7.out.trans (hb8.mono W7.out.size))
                have HPX := Lib.hid hpx
                have HPM := Lib.hid hpm
                clear hb8 C7 x0 x1 x2 x3 x4 z0 z1 z2 z3 z4 hp8 hpx hpm
                go_wp2_with fail
                go_loopw [13, 14] (fun bv iv wr => ∃ i : Nat, bv = .bool true ∧ iv = .int .i64 (i : Int) ∧ i ≤ pm ∧ Below w8.heap.size w8 wr) (fun _ iv _ => pm - (intOf iv).toNat)
                case atStart => exact ⟨0, rfl, rfl, Nat.zero_le _, Below.refl _ _⟩
                case round =>
                  obtain ⟨i, rfl, rfl, hi, hb⟩ := hrel
                  have HB8 := Lib.hid hb
                  clear hb
                  by_cases hip : i < pm
                  · have hip' : (i : Int) < (pm : Int) := by omega
                    obtain ⟨b, off, rfl, hc0, hc1⟩ := HPX.out i (by have := HPM.out; omega)
                    have hbl : b < w8.heap.size := by
                      by_cases hh : b < w8.heap.size
                      · exact hh
                      · simp [World.cell?, Array.getElem?_eq_none (Nat.le_of_not_lt hh)] at hc0
                    obtain ⟨z, hz⟩ : ∃ z : Int, (i : Int) = z := ⟨_, rfl⟩
                    have d0 : wr.cell? ⟨b, off + i * 2, none⟩ = some (.int .i64 z) := ((HB8.out.cell (p := ⟨b, off + i * 2, none⟩) hbl).trans hc0).trans (by rw [hz])
                    have d1 : wr.cell? ⟨b, off + i * 2 + 1, none⟩ = some (.int .i64 z) := ((HB8.out.cell (p := ⟨b, off + (i * 2 + 1), none⟩) hbl).trans hc1).trans (by rw [hz])
                    have hzz : (z == z) = true := beq_self_eq_true _
                    have hpb : pm ≤ 1000 := by have := HPM.out; omega
                    have B9 := Lib.hid HB8.out.drew
                    clear hc0 hc1 hz
                    go_wp2_with fail
                    go_region
                    all_goals
                      go_wp2_with fail
                      go_roundw
                      case rel => exact ⟨i + 1, by first | rfl | simp, by go_num, hip, B9.out⟩
                      case measure => simp [intOf]; omega
                  · have hip' : ¬ (i : Int) < (pm : Int) := by omega
                    go_wp2_with fail
                    go_ret
                    exact ⟨rfl, W8.out.trans (HB8.out.mono W8.out.size)⟩
          · have hne : (er2 == 0) = false := beq_eq_false_iff_ne.2 he2
            have hor : er2 = 33 ∨ er2 = 34 ∨ er2 = 52 := by
              obtain ⟨h2, _⟩ := h1.out he2
              rcases HB.out with ⟨_, _, h4, h5⟩ | ⟨u', h4, h5⟩
              · rw [h4] at h2
                injection h2 with h2
                injection h2 with _ h2
                rw [← h2]; exact h5
              · rw [h4] at h2; cases h2
            have W5 := Lib.hid (belA W4.out (Obj.cells #[.int .i64 k2, .int .i64 n2, .string nm2, .slice A2 m2 c2, .slice NA2 nn2 nc2] 27))
            clear h0 h1 hb4 C2
            rcases hor with rfl | rfl | rfl
            all_goals
              go_wp2_with fail
              go_ret
              exact ⟨rfl, W5.out⟩
    · go_wp2_with fail
      go_ret
      exact ⟨rfl, W3.out⟩
  · have hne : (er == 0) = false := beq_eq_false_iff_ne.2 he
    have hse' : (s0.toList == []) = true := by
      rcases hse with ⟨_, h, _⟩ | ⟨h, _⟩
      · exact absurd h (HBAD.out he)
      · exact h
    clear hse
    go_wp2_with fail
    go_ret
    exact ⟨rfl, W3.out⟩
end Go.Proofs.YtiefbdblefliaaaDoor
