/- The walk through coneyref08.Unified: plain lemmas; its contract. -/
import Derived.Test.YtgoedlbdnmhppaaRu5
import Derived.Test.YtgoedlbdnmhppaaStep
import Derived.Deep.DrawnRows
import Derived.Deep.DeepCutAuto
import Derived.Deep.RegionHeld3
namespace Go.Proofs.Ytgoedlbdnmhppaa
open Go.RowKit

/-- What Unified comes to. -/
def UniQ (r : Res) (w : World) (e : Ending) (w' : World) : Prop := (match r with
  | .ok L f => ∃ (A : Option Addr) (c k : Nat), e = .returned (.tuple #[.slice A L.length c, .int .i64 (k : Int), .int .i64 0]) ∧ k + f = 2000 ∧ BL w' A c L
  | .many => ∃ k : Nat, e = .returned (.tuple #[.slice none 0 0, .int .i64 (k : Int), .int .i64 34]) ∧ k ≤ 2001
  | .unlike => ∃ k : Nat, e = .returned (.tuple #[.slice none 0 0, .int .i64 (k : Int), .int .i64 80]) ∧ k ≤ 2001) ∧ Below w.heap.size w w'
theorem UniQ.form {r : Res} {w : World} {e : Ending} {w' : World} (h : UniQ r w e w') : ∃ (s : Value) (kk : Nat) (er : Int), e = .returned (.tuple #[s, .int .i64 (kk : Int), .int .i64 er]) ∧ ((er = 0 ∧ ∃ A c L f, s = .slice A (List.length L) c ∧ kk + f = 2000 ∧ r = .ok L f ∧ BL w' A c L) ∨
    (er = 34 ∧ s = .slice none 0 0 ∧ kk ≤ 2001 ∧ r = .many) ∨ (er = 80 ∧ s = .slice none 0 0 ∧ kk ≤ 2001 ∧ r = .unlike)) ∧ Below w.heap.size w w' := by
  obtain ⟨h1, h2⟩ := h
  cases r with
  | ok L f =>
    obtain ⟨A, c, k, rfl, hk, hb⟩ := h1
    exact ⟨_, k, 0, rfl, .inl ⟨rfl, A, c, L, f, rfl, hk, rfl, hb⟩, h2⟩
  | many =>
    obtain ⟨k, rfl, hk⟩ := h1
    exact ⟨_, k, 34, rfl, .inr (.inl ⟨rfl, rfl, hk, rfl⟩), h2⟩
  | unlike =>
    obtain ⟨k, rfl, hk⟩ := h1
    exact ⟨_, k, 80, rfl, .inr (.inr ⟨rfl, rfl, hk, rfl⟩), h2⟩
def UnC (f : Nat) : Prop := ∀ (w : World) (A : Option Addr) (c : Nat) (L : Bs) (ta tb : T) (va vb : Value) (k : Nat), k + f = 2000 → BL w A c L → EnvOk L → TP w (fun _ => True) ta va → TP w (fun _ => True) tb vb → ta.ok → tb.ok →
  Calls Try.prog 50 #[.slice A L.length c, va, vb, .int .i64 (k : Int)] w fun e w' => UniQ (uniF f L [(ta, tb)]) w e w'
set_option maxRecDepth 100000 in
set_option maxHeartbeats 4000000 in
theorem un_zero : UnC 0 := by
  intro w A c L ta tb va vb k hk _ _ hva hvb _ _
  obtain rfl : k = 2000 := by omega
  obtain ⟨_, _, _, _, _, _, rfl⟩ := hva.agg
  obtain ⟨_, _, _, _, _, _, rfl⟩ := hvb.agg
  clear hva hvb hk
  go_enter Try.func50, Try.ntmps50
  go_wp2_with fail
  go_ret3
  exact ⟨⟨2001, rfl, by omega⟩, ((Below.refl _ _).alloc (Nat.le_refl _) _).alloc (by simp) _⟩
/-- The loop over both sides' arguments: where it stands. -/
structure ULp (f : Nat) (L : Bs) (w : World) (ka na : Int) (sa : ByteArray) (Aa : Option Addr) (ma ca : Nat) (kb nb : Int) (sb : ByteArray) (Ab : Option Addr) (mb cb : Nat) (fa fb : Nat → T) (wr : World) (i kk : Nat) (e : Int) (s0 : Value) : Prop where
  low : Below w.heap.size w wr
  ba : wr.heap[w.heap.size]? = some (.cells #[.int .i64 ka, .int .i64 na, .string sa, .slice Aa ma ca] 40 (0, 0))
  bb : wr.heap[w.heap.size + 1]? = some (.cells #[.int .i64 kb, .int .i64 nb, .string sb, .slice Ab mb cb] 40 (0, 0))
  st : (e = 0 ∧ ∃ A1 c1 L1 f1, s0 = .slice A1 (List.length L1) c1 ∧ kk + f1 = 2000 ∧ f1 ≤ f ∧ BL wr A1 c1 L1 ∧ EnvOk L1 ∧ uniF f L (pairsOf ma fa fb) = uniF f1 L1 (pairsFrom i ma fa fb)) ∨
    (e = 34 ∧ s0 = .slice none 0 0 ∧ kk ≤ 2001 ∧ uniF f L (pairsOf ma fa fb) = .many) ∨ (e = 80 ∧ s0 = .slice none 0 0 ∧ kk ≤ 2001 ∧ uniF f L (pairsOf ma fa fb) = .unlike)
/-- Behind both walks. -/
structure USt (w : World) (a b : T) (W : World) (ka na : Int) (sa : ByteArray) (Aa : Option Addr) (ma ca : Nat) (kb nb : Int) (sb : ByteArray) (Ab : Option Addr) (mb cb : Nat) : Prop where
  low : Below w.heap.size w W
  ba : W.heap[w.heap.size]? = some (.cells #[.int .i64 ka, .int .i64 na, .string sa, .slice Aa ma ca] 40 (0, 0))
  bb : W.heap[w.heap.size + 1]? = some (.cells #[.int .i64 kb, .int .i64 nb, .string sb, .slice Ab mb cb] 40 (0, 0))
  ta : TP w (fun _ => True) a (.agg #[.int .i64 ka, .int .i64 na, .string sa, .slice Aa ma ca])
  tb : TP w (fun _ => True) b (.agg #[.int .i64 kb, .int .i64 nb, .string sb, .slice Ab mb cb])
set_option maxRecDepth 100000 in
set_option maxHeartbeats 8000000 in
theorem un_succ (f : Nat) (ih : ∀ f1, f1 ≤ f → UnC f1) : UnC (f + 1) := by
  intro w A c L ta tb va vb k hk hbl hL hva hvb oa ob
  obtain ⟨k0, k1, k2, A0, m0, c0, rfl⟩ := hva.agg
  obtain ⟨j0, j1, j2, B0, n0, d0, rfl⟩ := hvb.agg
  have H := Lib.hid hbl
  have HL := Lib.hid hL
  have HA := Lib.hid hva
  have HB := Lib.hid hvb
  have IH := Lib.hid ih
  have hkb : (k : Int) + 1 ≤ 2000 := by omega
  have HK := Lib.hid hk
  have B2 := Lib.hid (belA (belA (Below.refl w.heap.size w) (Obj.cells #[.int .i64 k0, .int .i64 k1, .string k2, .slice A0 m0 c0] 40)) (Obj.cells #[.int .i64 j0, .int .i64 j1, .string j2, .slice B0 n0 d0] 40))
  clear hbl hL hva hvb ih hk
  go_enter Try.func50, Try.ntmps50
  go_upto_region 4 with fail
  go_cut [] (fun wx => ∃ ka na sa Aa ma ca, USt w (walkN L ta) tb wx ka na sa Aa ma ca j0 j1 j2 B0 n0 d0)
  case first =>
    go_wp2_with fail
    refine (rwalk_any H.out HL.out HA.out oa B2.out).mono ?_
    rintro e w1 ⟨⟨v1, rfl, hta⟩, h1⟩
    obtain ⟨ka, na, sa, Aa, ma, ca, rfl⟩ := hta.agg
    have HTA := Lib.hid hta
    have B1 := Lib.hid (B2.out.trans (h1.mono B2.out.size))
    have X1 := Lib.hid ((h1.block w.heap.size (by simp; omega)).trans ((Below.heap_alloc _ _ _ (by simp)).trans (heap_alloc_new w (Obj.cells #[.int .i64 k0, .int .i64 k1, .string k2, .slice A0 m0 c0] 40))))
    have Y1 := Lib.hid ((h1.block (w.heap.size + 1) (by simp)).trans ((congrArg _ (by simp)).trans (heap_alloc_new (w.alloc (Obj.cells #[.int .i64 k0, .int .i64 k1, .string k2, .slice A0 m0 c0] 40)) (Obj.cells #[.int .i64 j0, .int .i64 j1, .string j2, .slice B0 n0 d0] 40))))
    have P1 := Lib.hid (box_put4 X1.out (.int .i64 ka) (.int .i64 na) (.string sa) (.slice Aa ma ca) rfl)
    have xf : ∀ i, w1.frozen? ⟨w.heap.size, i, none⟩ = false := fun i => by simp [World.frozen?, X1.out]
    obtain ⟨x0, x1, x2, x3⟩ := box4 X1.out
    clear hta h1
    go_wp2_with fail
    go_meet
    case rel => exact ⟨ka, na, sa, Aa, ma, ca, P1.out.2.2.2 _ _ (Nat.le_refl _) B1.out, P1.out.1, (P1.out.2.2.1 _ (by omega)).trans Y1.out, HTA.out, HB.out⟩
  case rest =>
    obtain ⟨ka, na, sa, Aa, ma, ca, st⟩ := hcut
    have S1 := Lib.hid st
    obtain ⟨y0, y1, y2, y3⟩ := box4 st.bb
    have hl1 := heap_lt st.bb
    clear st
    go_upto_region 5 with fail
    go_cut [] (fun wx => ∃ kb nb sb Ab mb cb, USt w (walkN L ta) (walkN L tb) wx ka na sa Aa ma ca kb nb sb Ab mb cb)
    case first =>
      go_wp2_with fail
      refine (rwalk_any H.out HL.out HB.out ob S1.out.low).mono ?_
      rintro e w1 ⟨⟨v1, rfl, htb⟩, h1⟩
      obtain ⟨kb, nb, sb, Ab, mb, cb, rfl⟩ := htb.agg
      have HTB := Lib.hid htb
      have B1 := Lib.hid (S1.out.low.trans (h1.mono S1.out.low.size))
      have X1 := Lib.hid ((h1.block _ (heap_lt S1.out.ba)).trans S1.out.ba)
      have Y1 := Lib.hid ((h1.block _ hl1).trans S1.out.bb)
      have P1 := Lib.hid (box_put4 Y1.out (.int .i64 kb) (.int .i64 nb) (.string sb) (.slice Ab mb cb) rfl)
      have xf : ∀ i, w1.frozen? ⟨w.heap.size + 1, i, none⟩ = false := fun i => by simp [World.frozen?, Y1.out]
      clear y0 y1 y2 y3
      obtain ⟨y0, y1, y2, y3⟩ := box4 Y1.out
      clear htb h1
      go_wp2_with fail
      go_meet
      case rel => exact ⟨kb, nb, sb, Ab, mb, cb, P1.out.2.2.2 _ _ (Nat.le_succ _) B1.out, (P1.out.2.2.1 _ (by omega)).trans X1.out, P1.out.1, S1.out.ta, HTB.out⟩
    case rest =>
      clear y0 y1 y2 y3 hl1 S1
      obtain ⟨kb, nb, sb, Ab, mb, cb, st⟩ := hcut
      obtain ⟨fa, ha⟩ := st.ta.shape
      obtain ⟨fb, hb⟩ := st.tb.shape
      have oka := HL.out.walk_ok oa
      have okb := HL.out.walk_ok ob
      have da := HL.out.walk_done ta
      have db := HL.out.walk_done tb
      have hu := uniF_one f L ta tb
      rw [ha] at oka da hu
      rw [hb] at okb db hu
      have hta := st.ta
      have htb := st.tb
      rw [ha] at hta
      rw [hb] at htb
      have HU := Lib.hid hu
      have OA := Lib.hid oka
      have OB := Lib.hid okb
      have DA := Lib.hid da
      have DB := Lib.hid db
      have TA := Lib.hid hta
      have TB := Lib.hid htb
      have LW := Lib.hid st.low
      have HBD := Lib.hid (show ∀ n t, stepU L (.mk ka na sa ma fa) (.mk kb nb sb mb fb) = .bind n t → EnvOk (L ++ [(n, t)]) from fun n t hs => by
        obtain ⟨b1, b2, b3, b4, b5⟩ := stepU_bind oka okb da db hs
        exact HL.out.bind b1 b2 b3 b4 b5)
      have hsz := st.low.size
      obtain ⟨x0, x1, x2, x3⟩ := box4 st.ba
      obtain ⟨y0, y1, y2, y3⟩ := box4 st.bb
      have HBA := Lib.hid st.ba
      have HBB := Lib.hid st.bb
      have hl1 := heap_lt st.ba
      have hl2 := heap_lt st.bb
      have BLW := Lib.hid (H.out.below st.low)
      have ST := Lib.hid st
      clear ha hb oka okb da db hu hta htb st B2 HA HB
      cases hka : (ka == 1) with
      | true =>
        obtain rfl : ka = 1 := by simpa using hka
        cases hkb : (kb == 1) with
        | true =>
          obtain rfl : kb = 1 := by simpa using hkb
          rcases Int.lt_trichotomy na nb with hlt | heq | hgt
          · have hs : stepU L (.mk 1 na sa ma fa) (.mk 1 nb sb mb fb) = .bind nb (.mk 1 na sa ma fa) := by rw [stepU_vv, if_neg (by omega), if_pos hlt]
            have HR := Lib.hid (show uniF (f + 1) L [(ta, tb)] = .ok (L ++ [(nb, .mk 1 na sa ma fa)]) f by rw [HU.out, hs])
            have CB := Lib.hid (rbind_any BLW.out (TA.out.below LW.out) (HBD.out _ _ hs))
            have hnb : (na == nb) = false := by simp; omega
            have hng : ¬ na > nb := by omega
            clear hs
            go_wp2_with fail
            refine CB.out.mono ?_
            rintro e w5 ⟨⟨A5, c5, rfl, hb5⟩, h5⟩
            have B5 := Lib.hid hb5
            have W5 := Lib.hid (LW.out.trans (h5.mono LW.out.size))
            clear hb5 h5
            go_wp2_with fail
            go_ret3
            rw [HR.out]
            exact ⟨⟨A5, c5, k + 1, by rw [List.length_append]; rfl, by have := HK.out; omega, B5.out⟩, W5.out⟩
          · have hs : stepU L (.mk 1 na sa ma fa) (.mk 1 nb sb mb fb) = .args 0 fa fb := by rw [stepU_vv, if_pos heq]
            have HR := Lib.hid (show uniF (f + 1) L [(ta, tb)] = .ok L f by rw [HU.out, hs]; exact uniF_nil _ _)
            have hnb : (na == nb) = true := by simpa using heq
            clear hs heq
            go_wp2_with fail
            go_ret3
            rw [HR.out]
            exact ⟨⟨A, c, k + 1, rfl, by have := HK.out; omega, BLW.out⟩, LW.out⟩
          · have hs : stepU L (.mk 1 na sa ma fa) (.mk 1 nb sb mb fb) = .bind na (.mk 1 nb sb mb fb) := by rw [stepU_vv, if_neg (by omega), if_neg (by omega)]
            have HR := Lib.hid (show uniF (f + 1) L [(ta, tb)] = .ok (L ++ [(na, .mk 1 nb sb mb fb)]) f by rw [HU.out, hs])
            have CB := Lib.hid (rbind_any BLW.out (TB.out.below LW.out) (HBD.out _ _ hs))
            have hnb : (na == nb) = false := by simp; omega
            have hng : nb < na := by omega
            clear hs
            go_wp2_with fail
            refine CB.out.mono ?_
            rintro e w5 ⟨⟨A5, c5, rfl, hb5⟩, h5⟩
            have B5 := Lib.hid hb5
            have W5 := Lib.hid (LW.out.trans (h5.mono LW.out.size))
            clear hb5 h5
            go_wp2_with fail
            go_ret3
            rw [HR.out]
            exact ⟨⟨A5, c5, k + 1, by rw [List.length_append]; rfl, by have := HK.out; omega, B5.out⟩, W5.out⟩
        | false =>
          have hkb1 : kb ≠ 1 := by simpa using hkb
          have hk1x := hkb1
          have CO := Lib.hid (roccurs_any BLW.out HL.out (TB.out.below LW.out) OB.out na)
          have HYES := Lib.hid (show Reach L na (.mk kb nb sb mb fb) → uniF (f + 1) L [(ta, tb)] = .unlike from fun h => by rw [HU.out, stepU_v_yes rfl hkb1 h])
          have HNO := Lib.hid (show ¬ Reach L na (.mk kb nb sb mb fb) → uniF (f + 1) L [(ta, tb)] = .ok (L ++ [(na, .mk kb nb sb mb fb)]) f from fun h => by rw [HU.out, stepU_v_no rfl hkb1 h])
          have CB := Lib.hid (show ¬ Reach L na (.mk kb nb sb mb fb) → EnvOk (L ++ [(na, .mk kb nb sb mb fb)]) from fun h => HBD.out _ _ (stepU_v_no rfl hkb1 h))
          clear hk1x hkb1
          go_wp2_with fail
          refine CO.out.mono ?_
          rintro e w5 ⟨⟨b, rfl, hb⟩, h5⟩
          have W5 := Lib.hid (LW.out.trans (h5.mono LW.out.size))
          have XA := (h5.block _ hl1).trans HBA.out
          have XB := (h5.block _ hl2).trans HBB.out
          have BL5 := Lib.hid (BLW.out.below h5)
          have hla := heap_lt XA
          have hlb := heap_lt XB
          clear x0 x1 x2 x3 y0 y1 y2 y3
          obtain ⟨x0, x1, x2, x3⟩ := box4 XA
          obtain ⟨y0, y1, y2, y3⟩ := box4 XB
          clear h5 XA XB
          cases b with
          | true =>
            have HR := Lib.hid (HYES.out (hb.mp rfl))
            clear hb
            go_wp2_with fail
            go_ret3
            rw [HR.out]
            exact ⟨⟨k + 1, rfl, by have := HK.out; omega⟩, W5.out⟩
          | false =>
            have hnr : ¬ Reach L na (.mk kb nb sb mb fb) := fun h => by have := hb.mpr h; cases this
            have HR := Lib.hid (HNO.out hnr)
            have CX := Lib.hid (rbind_any BL5.out (TB.out.below W5.out) (CB.out hnr))
            clear hb hnr
            go_wp2_with fail
            refine CX.out.mono ?_
            rintro e w6 ⟨⟨A6, c6, rfl, hb6⟩, h6⟩
            have B6 := Lib.hid hb6
            have W6 := Lib.hid (W5.out.trans (h6.mono W5.out.size))
            clear hb6 h6
            go_wp2_with fail
            go_ret3
            rw [HR.out]
            exact ⟨⟨A6, c6, k + 1, by rw [List.length_append]; rfl, by have := HK.out; omega, B6.out⟩, W6.out⟩
      | false =>
        have hka1 : ka ≠ 1 := by simpa using hka
        cases hkb : (kb == 1) with
        | true =>
          obtain rfl : kb = 1 := by simpa using hkb
          have hk1x := hka1
          have CO := Lib.hid (roccurs_any BLW.out HL.out (TA.out.below LW.out) OA.out nb)
          have HYES := Lib.hid (show Reach L nb (.mk ka na sa ma fa) → uniF (f + 1) L [(ta, tb)] = .unlike from fun h => by rw [HU.out, stepU_w_yes hka1 rfl h])
          have HNO := Lib.hid (show ¬ Reach L nb (.mk ka na sa ma fa) → uniF (f + 1) L [(ta, tb)] = .ok (L ++ [(nb, .mk ka na sa ma fa)]) f from fun h => by rw [HU.out, stepU_w_no hka1 rfl h])
          have CB := Lib.hid (show ¬ Reach L nb (.mk ka na sa ma fa) → EnvOk (L ++ [(nb, .mk ka na sa ma fa)]) from fun h => HBD.out _ _ (stepU_w_no hka1 rfl h))
          clear hk1x hka1
          go_wp2_with fail
          refine CO.out.mono ?_
          rintro e w5 ⟨⟨b, rfl, hb⟩, h5⟩
          have W5 := Lib.hid (LW.out.trans (h5.mono LW.out.size))
          have XA := (h5.block _ hl1).trans HBA.out
          have XB := (h5.block _ hl2).trans HBB.out
          have BL5 := Lib.hid (BLW.out.below h5)
          have hla := heap_lt XA
          have hlb := heap_lt XB
          clear x0 x1 x2 x3 y0 y1 y2 y3
          obtain ⟨x0, x1, x2, x3⟩ := box4 XA
          obtain ⟨y0, y1, y2, y3⟩ := box4 XB
          clear h5 XA XB
          cases b with
          | true =>
            have HR := Lib.hid (HYES.out (hb.mp rfl))
            clear hb
            go_wp2_with fail
            go_ret3
            rw [HR.out]
            exact ⟨⟨k + 1, rfl, by have := HK.out; omega⟩, W5.out⟩
          | false =>
            have hnr : ¬ Reach L nb (.mk ka na sa ma fa) := fun h => by have := hb.mpr h; cases this
            have HR := Lib.hid (HNO.out hnr)
            have CX := Lib.hid (rbind_any BL5.out (TA.out.below W5.out) (CB.out hnr))
            clear hb hnr
            go_wp2_with fail
            refine CX.out.mono ?_
            rintro e w6 ⟨⟨A6, c6, rfl, hb6⟩, h6⟩
            have B6 := Lib.hid hb6
            have W6 := Lib.hid (W5.out.trans (h6.mono W5.out.size))
            clear hb6 h6
            go_wp2_with fail
            go_ret3
            rw [HR.out]
            exact ⟨⟨A6, c6, k + 1, by rw [List.length_append]; rfl, by have := HK.out; omega, B6.out⟩, W6.out⟩
        | false =>
          have hkb1 : kb ≠ 1 := by simpa using hkb
          have HFAIL := Lib.hid (show (ka ≠ kb ∨ (ka = 2 ∧ na ≠ nb) ∨ sa ≠ sb ∨ ma ≠ mb) → uniF (f + 1) L [(ta, tb)] = .unlike from fun h => by rw [HU.out, stepU_no hka1 hkb1 h])
          have HPASS := Lib.hid (show ka = kb → (ka = 2 → na = nb) → sa = sb → ma = mb → uniF (f + 1) L [(ta, tb)] = uniF f L (pairsOf ma fa fb) from fun h1 h2 h3 h4 => by rw [HU.out, stepU_yes hka1 hkb1 h1 h2 h3 h4])
          clear hka1 hkb1
          go_upto_region 20 with fail
          go_cut [131] (fun s wx => USt w (walkN L ta) (walkN L tb) wx ka na sa Aa ma ca kb nb sb Ab mb cb ∧ ∃ bb : Bool, s = .bool bb ∧ FailB ka na sa ma kb nb sb mb bb)
          case first =>
            by_cases hkk : ka = kb
            · subst hkk
              rcases OA.out.1.1 with h | h | h | h
              · exact absurd h.1 (by simpa using hka)
              · obtain ⟨rfl, _, rfl, rfl⟩ := h
                obtain ⟨rfl, rfl⟩ : sb = ⟨#[]⟩ ∧ mb = 0 := by
                  rcases OB.out.1.1 with h | h | h | h
                  · exact absurd h.1 (by decide)
                  · exact ⟨h.2.2.1, h.2.2.2⟩
                  · exact absurd h.1 (by decide)
                  · exact absurd h.1 (by decide)
                by_cases hnn : na = nb
                · subst hnn
                  go_wp2_with fail
                  go_meet
                  case rel => exact ⟨ST.out, false, rfl, (fun h => by cases h), fun _ => ⟨rfl, fun _ => rfl, rfl, rfl⟩⟩
                · have hnb : (na != nb) = true := by simpa using hnn
                  go_wp2_with fail
                  go_meet
                  case rel => exact ⟨ST.out, true, rfl, fun _ => .inr (.inl ⟨rfl, hnn⟩), (fun h => by cases h)⟩
              · obtain ⟨rfl, _, _, rfl⟩ := h
                obtain rfl : mb = 0 := by
                  rcases OB.out.1.1 with h | h | h | h
                  · exact absurd h.1 (by decide)
                  · exact absurd h.1 (by decide)
                  · exact h.2.2.2
                  · exact absurd h.1 (by decide)
                by_cases hss : sa = sb
                · subst hss
                  go_wp2_with fail
                  go_meet
                  case rel => exact ⟨ST.out, false, rfl, (fun h => by cases h), fun _ => ⟨rfl, (fun h => by cases h), rfl, rfl⟩⟩
                · have hsl : ¬ sa.toList = sb.toList := fun h => hss (bytes_eq h)
                  have HSS := Lib.hid hss
                  clear hss
                  go_wp2_with fail
                  go_meet
                  case rel => exact ⟨ST.out, true, rfl, fun _ => .inr (.inr (.inl HSS.out)), (fun h => by cases h)⟩
              · obtain ⟨rfl, _, _, _⟩ := h
                by_cases hss : sa = sb
                · subst hss
                  by_cases hmm : ma = mb
                  · subst hmm
                    go_wp2_with fail
                    go_meet
                    case rel => exact ⟨ST.out, false, rfl, (fun h => by cases h), fun _ => ⟨rfl, (fun h => by cases h), rfl, rfl⟩⟩
                  · have HMM := Lib.hid hmm
                    have hmi : ((ma : Int) != (mb : Int)) = true := by simp; omega
                    clear hmm
                    go_wp2_with fail
                    go_meet
                    case rel => exact ⟨ST.out, true, rfl, fun _ => .inr (.inr (.inr HMM.out)), (fun h => by cases h)⟩
                · have hsl : ¬ sa.toList = sb.toList := fun h => hss (bytes_eq h)
                  have HSS := Lib.hid hss
                  clear hss
                  go_wp2_with fail
                  go_meet
                  case rel => exact ⟨ST.out, true, rfl, fun _ => .inr (.inr (.inl HSS.out)), (fun h => by cases h)⟩
            · have hkn : (ka != kb) = true := by simpa using hkk
              have HKK := Lib.hid hkk
              clear hkk
              go_wp2_with fail
              go_meet
              case rel => exact ⟨ST.out, true, rfl, fun _ => .inl HKK.out, (fun h => by cases h)⟩
          case rest =>
            clear x0 x1 x2 x3 y0 y1 y2 y3 HBA HBB hl1 hl2 hsz LW BLW ST
            obtain ⟨st, bb, rfl, hfb⟩ := hcut
            have HBA := Lib.hid st.ba
            have HBB := Lib.hid st.bb
            have LW := Lib.hid st.low
            have BLW := Lib.hid (H.out.below st.low)
            obtain ⟨x0, x1, x2, x3⟩ := box4 st.ba
            obtain ⟨y0, y1, y2, y3⟩ := box4 st.bb
            have hl1 := heap_lt st.ba
            have hl2 := heap_lt st.bb
            clear st
            cases bb with
            | true =>
              have HR := Lib.hid (HFAIL.out (hfb.1 rfl))
              clear hfb
              go_wp2_with fail
              go_ret3
              rw [HR.out]
              exact ⟨⟨k + 1, rfl, by have := HK.out; omega⟩, LW.out⟩
            | false =>
              obtain ⟨rfl, h2, rfl, rfl⟩ := hfb.2 rfl
              have HR := Lib.hid (HPASS.out rfl h2 rfl rfl)
              have L0 := Lib.hid (show ULp f L w ka na sa Aa ma ca ka nb sa Ab ma cb fa fb _ 0 (k + 1) 0 (.slice A (List.length L) c) from ⟨LW.out, HBA.out, HBB.out, .inl ⟨rfl, A, c, L, f, rfl, by have := HK.out; omega, Nat.le_refl _, BLW.out, HL.out, rfl⟩⟩)
              have hp4 := OA.out.plain
              have hmaf := OA.out.few
              have HP4 := Lib.hid hp4
              clear hfb h2 hp4 HFAIL HPASS HU DA DB HBD
              go_wp2_with fail
              go_loopw [0, 3, 11, 12] (fun s0 s3 s11 s12 wr => ∃ (i kk : Nat) (e : Int), s3 = .int .i64 (kk : Int) ∧ s11 = .int .i64 e ∧ s12 = .int .i64 (i : Int) ∧ i ≤ ma ∧ ULp f L w ka na sa Aa ma ca ka nb sa Ab ma cb fa fb wr i kk e s0) (fun _ _ _ s12 _ => ma - (intOf s12).toNat)
              case atStart => exact ⟨0, k + 1, 0, rfl, rfl, rfl, Nat.zero_le _, L0.out⟩
              case round =>
                clear L0 x0 x1 x2 x3 y0 y1 y2 y3 HBA HBB hl1 hl2 LW BLW
                obtain ⟨i, kk, e, rfl, rfl, rfl, hi, hl⟩ := hrel
                have R := Lib.hid hl
                obtain ⟨x0, x1, x2, x3⟩ := box4 hl.ba
                obtain ⟨y0, y1, y2, y3⟩ := box4 hl.bb
                have hl1 := heap_lt hl.ba
                have hl2 := heap_lt hl.bb
                have hsz := hl.low.size
                have hst := hl.st
                clear hl
                rcases hst with ⟨rfl, A1, c1, L1, f1, rfl, hkk, hf1, hbl1, hok1, heq⟩ | ⟨rfl, rfl, hkk, heq⟩ | ⟨rfl, rfl, hkk, heq⟩
                · have HQ := Lib.hid heq
                  have HB1 := Lib.hid hbl1
                  have HO1 := Lib.hid hok1
                  have HEND := Lib.hid (show i = ma → uniF f L (pairsOf ma fa fb) = .ok L1 f1 from fun h => by rw [HQ.out, h, pairsFrom_end, uniF_nil])
                  clear heq hbl1 hok1
                  cases hk4 : (ka == 4) with
                  | false =>
                    have hma := HP4.out (by simpa using hk4)
                    have HR2 := Lib.hid (HEND.out (by omega))
                    clear hma
                    go_wp2_with fail
                    go_ret3
                    rw [HR.out, HR2.out]
                    exact ⟨⟨A1, c1, kk, rfl, hkk, HB1.out⟩, R.out.low⟩
                  | true =>
                    by_cases him : i < ma
                    · have him' : (i : Int) < (ma : Int) := by omega
                      obtain ⟨_, _, _, _, _, _, hargs⟩ := TA.out.args
                      obtain ⟨ga, u0, u1, u2, U0, um, uc, rfl, _, hga, d0, d1, d2, d3, hti⟩ := hargs i him
                      obtain ⟨_, _, _, _, _, _, hbrgs⟩ := TB.out.args
                      obtain ⟨gb, v0, v1, v2, V0, vm, vc, rfl, _, hgb, e0, e1, e2, e3, htj⟩ := hbrgs i him
                      have hgal := Nat.lt_of_lt_of_le hga hsz
                      have hgbl := Nat.lt_of_lt_of_le hgb hsz
                      have d0 := (R.out.low.cell (p := ⟨ga, i * 4, none⟩) hga).trans d0
                      have d1 := (R.out.low.cell (p := ⟨ga, i * 4 + 1, none⟩) hga).trans d1
                      have d2 := (R.out.low.cell (p := ⟨ga, i * 4 + 2, none⟩) hga).trans d2
                      have d3 := (R.out.low.cell (p := ⟨ga, i * 4 + 3, none⟩) hga).trans d3
                      have e0 := (R.out.low.cell (p := ⟨gb, i * 4, none⟩) hgb).trans e0
                      have e1 := (R.out.low.cell (p := ⟨gb, i * 4 + 1, none⟩) hgb).trans e1
                      have e2 := (R.out.low.cell (p := ⟨gb, i * 4 + 2, none⟩) hgb).trans e2
                      have e3 := (R.out.low.cell (p := ⟨gb, i * 4 + 3, none⟩) hgb).trans e3
                      have LD := Lib.hid (R.out.low.drew)
                      have CU := Lib.hid (IH.out f1 hf1 _ A1 c1 L1 (fa i) (fb i) _ _ kk hkk (HB1.out.below ((Below.refl _ _).drew)) HO1.out (hti.below LD.out) (htj.below LD.out) (OA.out.arg him) (OB.out.arg him))
                      have HOKS := Lib.hid (show ∀ p ∈ [(fa i, fb i)], p.1.ok ∧ p.2.ok from fun p hp => by simp at hp; subst hp; exact ⟨OA.out.arg him, OB.out.arg him⟩)
                      have KPS := Lib.hid (show ∀ w', Below wr.heap.size wr w' → w'.cell? ⟨w.heap.size, 3, none⟩ = some (.slice (some ⟨ga, 0, none⟩) ma ca) ∧ w'.cell? ⟨w.heap.size + 1, 3, none⟩ = some (.slice (some ⟨gb, 0, none⟩) ma cb) ∧ w'.cell? ⟨ga, i * 4, none⟩ = some (.int .i64 u0) ∧ w'.cell? ⟨ga, i * 4 + 1, none⟩ = some (.int .i64 u1) ∧ w'.cell? ⟨ga, i * 4 + 2, none⟩ = some (.string u2) ∧ w'.cell? ⟨ga, i * 4 + 3, none⟩ = some (.slice U0 um uc) ∧ w'.cell? ⟨gb, i * 4, none⟩ = some (.int .i64 v0) ∧ w'.cell? ⟨gb, i * 4 + 1, none⟩ = some (.int .i64 v1) ∧ w'.cell? ⟨gb, i * 4 + 2, none⟩ = some (.string v2) ∧ w'.cell? ⟨gb, i * 4 + 3, none⟩ = some (.slice V0 vm vc) from fun w' hw => ⟨(hw.cell (p := ⟨w.heap.size, 3, none⟩) hl1).trans x3, (hw.cell (p := ⟨w.heap.size + 1, 3, none⟩) hl2).trans y3, (hw.cell (p := ⟨ga, i * 4, none⟩) hgal).trans d0, (hw.cell (p := ⟨ga, i * 4 + 1, none⟩) hgal).trans d1, (hw.cell (p := ⟨ga, i * 4 + 2, none⟩) hgal).trans d2, (hw.cell (p := ⟨ga, i * 4 + 3, none⟩) hgal).trans d3, (hw.cell (p := ⟨gb, i * 4, none⟩) hgbl).trans e0, (hw.cell (p := ⟨gb, i * 4 + 1, none⟩) hgbl).trans e1, (hw.cell (p := ⟨gb, i * 4 + 2, none⟩) hgbl).trans e2, (hw.cell (p := ⟨gb, i * 4 + 3, none⟩) hgbl).trans e3⟩)
                      clear hti htj hargs hbrgs HEND
                      go_wp2_with fail
                      go_region_held3 (fun w' => w'.cell? ⟨w.heap.size, 3, none⟩ = some (.slice (some ⟨ga, 0, none⟩) ma ca) ∧ w'.cell? ⟨w.heap.size + 1, 3, none⟩ = some (.slice (some ⟨gb, 0, none⟩) ma cb) ∧ w'.cell? ⟨ga, i * 4, none⟩ = some (.int .i64 u0) ∧ w'.cell? ⟨ga, i * 4 + 1, none⟩ = some (.int .i64 u1) ∧ w'.cell? ⟨ga, i * 4 + 2, none⟩ = some (.string u2) ∧ w'.cell? ⟨ga, i * 4 + 3, none⟩ = some (.slice U0 um uc) ∧ w'.cell? ⟨gb, i * 4, none⟩ = some (.int .i64 v0) ∧ w'.cell? ⟨gb, i * 4 + 1, none⟩ = some (.int .i64 v1) ∧ w'.cell? ⟨gb, i * 4 + 2, none⟩ = some (.string v2) ∧ w'.cell? ⟨gb, i * 4 + 3, none⟩ = some (.slice V0 vm vc))
                        (first | exact KPS.out _ ((Below.refl _ _).drew) | exact KPS.out _ (((Below.refl _ _).drew).trans h6))
                        ((go_at_call 50; (with_reducible refine CU.out.mono ?_); rintro e w6 huq; obtain ⟨s6, k6, r6, rfl, hst6, h6⟩ := huq.form))
                      have HST := Lib.hid hst6
                      have L6 := Lib.hid (show Below w.heap.size w w6 from LD.out.trans (h6.mono hsz))
                      have BA6 := Lib.hid ((h6.block _ hl1).trans R.out.ba)
                      have BB6 := Lib.hid ((h6.block _ hl2).trans R.out.bb)
                      clear hst6 h6
                      go_wp2_with fail
                      go_roundw
                      case rel =>
                        refine ⟨i + 1, k6, r6, rfl, rfl, by go_num, him, L6.out, BA6.out, BB6.out, ?_⟩
                        have hq : uniF f L (pairsOf ma fa fb) = (uniF f1 L1 [(fa i, fb i)]).then (pairsFrom (i + 1) ma fa fb) := by rw [HQ.out, pairsFrom_step him, uniF_cons]
                        rcases HST.out with ⟨rfl, A6, c6, L2, f2, rfl, hk6, hr6, hb6⟩ | ⟨rfl, rfl, hk6, hr6⟩ | ⟨rfl, rfl, hk6, hr6⟩
                        · obtain ⟨o1, o2, _⟩ := uniF_ok f1 L1 _ HO1.out HOKS.out _ _ hr6
                          exact .inl ⟨rfl, A6, c6, L2, f2, rfl, hk6, by omega, hb6, o1, by rw [hq, hr6]; rfl⟩
                        · exact .inr (.inl ⟨rfl, rfl, hk6, by rw [hq, hr6]; rfl⟩)
                        · exact .inr (.inr ⟨rfl, rfl, hk6, by rw [hq, hr6]; rfl⟩)
                      case measure => simp [intOf]; omega
                    · have HR2 := Lib.hid (HEND.out (by omega))
                      have him' : ¬ (i : Int) < (ma : Int) := by omega
                      go_wp2_with fail
                      go_ret3
                      rw [HR.out, HR2.out]
                      exact ⟨⟨A1, c1, kk, rfl, hkk, HB1.out⟩, R.out.low⟩
                · have HQ := Lib.hid heq
                  clear heq
                  cases hk4 : (ka == 4)
                  all_goals
                    by_cases him : (i : Int) < (ma : Int)
                    all_goals
                      go_wp2_with fail
                      go_ret3
                      rw [HR.out, HQ.out]
                      exact ⟨⟨kk, rfl, hkk⟩, R.out.low⟩
                · have HQ := Lib.hid heq
                  clear heq
                  cases hk4 : (ka == 4)
                  all_goals
                    by_cases him : (i : Int) < (ma : Int)
                    all_goals
                      go_wp2_with fail
                      go_ret3
                      rw [HR.out, HQ.out]
                      exact ⟨⟨kk, rfl, hkk⟩, R.out.low⟩
theorem un_any : ∀ f, UnC f := by
  intro f
  induction f using Nat.strongRecOn with
  | _ f ih =>
    cases f with
    | zero => exact un_zero
    | succ f => exact un_succ f fun f1 h => ih f1 (by omega)
end Go.Proofs.Ytgoedlbdnmhppaa
