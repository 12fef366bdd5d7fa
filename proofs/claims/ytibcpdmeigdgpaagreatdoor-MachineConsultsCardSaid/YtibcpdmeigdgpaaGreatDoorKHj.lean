/- Goals of the program, exactly. Split, exactly: the program's. -/
import Derived.Test.YtibcpdmeigdgpaaGreatDoorKHh
namespace Go.Proofs.YtibcpdmeigdgpaaGreatDoor
open Go.RowKit
def PGoals (t : T) (S : Nat → Prop) (w : World) (e : Ending) (w' : World) : Prop :=
 (∃ (A : Option Addr) (m c : Nat), e = .returned (.tuple #[.slice A m c, .int .i64 (erW (wrongT t))]) ∧ Hid (wrongT t = false → ∃ (P : Nat → Prop) (qs : List Q6), TL w' w.heap.size S P (.slice A m c) (gatN t) qs)) ∧ Below w.heap.size w w'
set_option maxRecDepth 100000 in
set_option maxHeartbeats 4000000 in
theorem pgoals_any {t : T} (hok : t.ok) {S : Nat → Prop} {v : Value} {w : World} (hN : ∀ b, S b → b < w.heap.size) (hv : TP w S t v) : Calls Tryz.prog 11 #[v] w fun e w' => PGoals t S w e w' := by
 obtain ⟨k, n, s, A, m, c, rfl⟩ := hv.agg
 have SF1 : ∀ (a : Addr) (cs : Array Value) (m : Mode) (W : World), (store a (.func (.func 22) #[] cs) m).run Tryz.prog W = stored Tryz.prog W a (.func (.func 22) #[] cs) m := fun a cs m W => run_store _ W a _ m rfl
 have SF2 : ∀ (a : Addr) (cs : Array Value) (m : Mode) (W : World), (store a (.func (.func 23) #[] cs) m).run Tryz.prog W = stored Tryz.prog W a (.func (.func 23) #[] cs) m := fun a cs m W => run_store _ W a _ m rfl
 have HV := Lib.hid hv
 have HOK := Lib.hid hok
 obtain ⟨W0, hW0⟩ : ∃ W0, W0 = ((((w.alloc (Obj.cells #[.int .i64 k, .int .i64 n, .string s, .slice A m c] 39)).alloc (Obj.cells #[.slice none 0 0] 35)).alloc (Obj.cells #[.bool false] 4)).alloc (Obj.cells #[fnK (w.heap.size + 1 + 1) (w.heap.size + 1 + 1 + 1)] 73)).alloc (Obj.cells #[fnH (w.heap.size + 1 + 1 + 1 + 1) (w.heap.size + 1)] 73) := ⟨_, rfl⟩
 have st : ∀ (u : World) (o o' : Obj) (g : Nat), u.heap[g]? = some o' → (u.alloc o).heap[g]? = some o' := fun u o o' g h => (Below.heap_alloc _ _ _ (heap_lt h)).trans h
 have nw : ∀ (u : World) (o : Obj) (g : Nat), g = u.heap.size → (u.alloc o).heap[g]? = some o := fun u o g h => heap_at u o h
 have BX := Lib.hid (show Below w.heap.size w W0 by rw [hW0]; exact belA (belA (belA (belA (belA (Below.refl _ _) _) _) _) _) _)
 have X0 := Lib.hid (show W0.heap[w.heap.size]? = some (.cells #[.int .i64 k, .int .i64 n, .string s, .slice A m c] 39 (0, 0)) by rw [hW0]; exact st _ _ _ _ (st _ _ _ _ (st _ _ _ _ (st _ _ _ _ (nw _ _ _ rfl)))))
 have CK := Lib.hid (show Ck W0 (w.heap.size + 1 + 1) (w.heap.size + 1 + 1 + 1) false by
  rw [hW0]
  exact ⟨st _ _ _ _ (st _ _ _ _ (nw _ _ _ (by simp))), st _ _ _ _ (nw _ _ _ (by simp))⟩)
 have hF0 : W0.heap[w.heap.size + 1 + 1 + 1 + 1]? = some (.cells #[fnH (w.heap.size + 1 + 1 + 1 + 1) (w.heap.size + 1)] 73 (0, 0)) := by rw [hW0]; exact nw _ _ _ (by simp)
 have hO0 : W0.heap[w.heap.size + 1]? = some (.cells #[.slice none 0 0] 35 (0, 0)) := by rw [hW0]; exact st _ _ _ _ (st _ _ _ _ (st _ _ _ _ (nw _ _ _ (by simp))))
 have H0 := Lib.hid (And.intro hF0 hO0)
 have HW0 := Lib.hid hW0
 have hsz0 : W0.heap.size = w.heap.size + 5 := by rw [hW0]; simp
 have HSZ := Lib.hid hsz0
 have CC := Lib.hid (pcheck_any t hok (w.heap.size + 1 + 1) (w.heap.size + 1 + 1 + 1) w.heap.size false S _ W0 hN (by omega) (by omega) CK.out (hv.below BX.out))
 obtain ⟨wv, hwv⟩ : ∃ wv, wrongT t = wv := ⟨_, rfl⟩
 have HWV := Lib.hid hwv
 have HN := Lib.hid hN
 unfold PGoals
 clear hv hok hW0 st nw hF0 hO0 hsz0 CK hwv hN
 go_enter Tryz.func11, Tryz.ntmps11
 go_wp2_with fail
 have hW := HW0.out
 unfold fnK fnH at hW
 rw [← hW]
 clear hW
 refine CC.out.mono ?_
 rintro e w1 ⟨rfl, ⟨cw, hck, HCW⟩, hke⟩
 have hcw : cw = wv := by rw [HCW.out, HWV.out]; rfl
 subst hcw
 have KE := Lib.hid hke
 have B1 := Lib.hid (BX.out.trans hke.low)
 have hk1 := hke.low.size
 have X1 := Lib.hid ((hke.keep w.heap.size (heap_lt X0.out) (by omega)).trans X0.out)
 have G1 := Lib.hid (show Gb w1 (w.heap.size + 1 + 1 + 1 + 1) (w.heap.size + 1) w.heap.size S (fun _ => False) none 0 0 [] [] from ⟨(hke.keep _ (heap_lt H0.out.1) (by omega)).trans H0.out.1, (hke.keep _ (heap_lt H0.out.2) (by omega)).trans H0.out.2, TL.empty (World.ownsRow_nil _ _ _ _) HN.out⟩)
 have cw0 := cell_of_row w1 (w.heap.size + 1 + 1) 0 _ _ _ hck.bw
 have lw0 := heap_lt hck.bw
 have HL := Lib.hid (show w.heap.size + 5 ≤ w1.heap.size by have := heap_lt hck.bw; have := heap_lt G1.out.bf; omega)
 clear hck hke CC hk1
 cases cw with
 | true =>
  go_wp2_with fail
  go_ret2
  exact ⟨⟨none, 0, 0, by rw [HWV.out]; rfl, Lib.hid fun h => by rw [HWV.out] at h; cases h⟩, B1.out⟩
 | false =>
  have CG := Lib.hid (gath_any t HOK.out (w.heap.size + 1 + 1 + 1 + 1) (w.heap.size + 1) w.heap.size S (fun _ => False) none 0 0 [] [] _ w1 (by have := HL.out; omega) (by omega) (by have := HOK.out.2; simp; omega) G1.out (HV.out.below B1.out))
  have cf0 := cell_of_row w1 (w.heap.size + 1 + 1 + 1 + 1) 0 _ _ _ G1.out.bf
  have lf0 := heap_lt G1.out.bf
  have lx0 := heap_lt X1.out
  obtain ⟨x0, x1, x2, x3⟩ := box4t X1.out
  unfold fnH at cf0
  go_wp2_with fail
  refine CG.out.mono ?_
  rintro e w2 ⟨rfl, P2, A2, m2, c2, qs2, hg2, hk2⟩
  have G2 := Lib.hid hg2
  have B2 := Lib.hid (B1.out.trans hk2.low)
  have co0 := cell_of_row w2 (w.heap.size + 1) 0 _ _ _ hg2.bo
  have lo0 := heap_lt hg2.bo
  clear hg2 hk2 CG cf0 lf0 lx0 x0 x1 x2 x3 cw0 lw0
  go_wp2_with fail
  go_ret2
  exact ⟨⟨A2, m2, c2, by rw [HWV.out]; rfl, Lib.hid fun _ => ⟨P2, qs2, G2.out.tl⟩⟩, B2.out⟩
end Go.Proofs.YtibcpdmeigdgpaaGreatDoor
namespace Go.Proofs.YtibcpdmeigdgpaaGreatDoor
open Go.RowKit
theorem pgoalsx_any {t : T} (hok : t.ok) {S : Nat → Prop} {v : Value} {w : World} (hN : ∀ b, S b → b < w.heap.size) (hv : TP w S t v) : Calls Tryz.prog 11 #[v] w fun e w' =>
 (∃ (A : Option Addr) (m c : Nat), e = .returned (.tuple #[.slice A m c, .int .i64 (erW (wrongT t))])) ∧ Below w.heap.size w w' := (pgoals_any hok hN hv).mono fun _ _ ⟨⟨A, m, c, he, _⟩, hb⟩ => ⟨⟨A, m, c, he⟩, hb⟩
set_option maxRecDepth 100000 in
set_option maxHeartbeats 8000000 in
theorem psplitx_any {t : T} (hok : t.ok) {S : Nat → Prop} {v : Value} {w : World} (hN : ∀ b, S b → b < w.heap.size) (hv : TP w S t v) : Calls Tryz.prog 9 #[v] w fun e w' => SplitX (splitT t) S w e w' := by
 obtain ⟨q0, q1, q2, q3, q4, q5, rfl⟩ := hv.agg
 have HV := Lib.hid hv
 have HOK := Lib.hid hok
 have HN := Lib.hid hN
 obtain ⟨W0, hW0⟩ : ∃ W0, W0 = ((((w.alloc (Obj.cells #[.int .i64 q0, .int .i64 q1, .string q2, .slice q3 q4 q5] 39)).alloc (Obj.cells #[.int .i64 0, .int .i64 0, .string ⟨#[]⟩, .slice none 0 0] 39)).alloc (Obj.cells #[.int .i64 0, .int .i64 0, .string ⟨#[]⟩, .slice none 0 0] 39)).alloc (Obj.cells #[.int .i64 q0, .int .i64 q1, .string q2, .slice q3 q4 q5] 39)).alloc (Obj.cells #[.int .i64 3, .int .i64 0, .string ⟨#[116, 114, 117, 101]⟩, .slice none 0 0] 39) := ⟨_, rfl⟩
 have hs0 : W0.heap.size = w.heap.size + 5 := by rw [hW0]; simp
 have HT0 := Lib.hid (show W0.heap[w.heap.size]? = some (.cells #[.int .i64 q0, .int .i64 q1, .string q2, .slice q3 q4 q5] 39 (0, 0)) by
  have st : ∀ (u : World) (o o' : Obj) (g : Nat), u.heap[g]? = some o' → (u.alloc o).heap[g]? = some o' := fun u o o' g h => (Below.heap_alloc _ _ _ (heap_lt h)).trans h
  rw [hW0]
  exact st _ _ _ _ (st _ _ _ _ (st _ _ _ _ (st _ _ _ _ (heap_at _ _ rfl)))))
 have HW0 := Lib.hid hW0
 cases t with
 | nil => exact hv.tin.elim
 | mk k n s m a =>
  obtain ⟨e0, e1, e2, e4, hmc, hA, hargs⟩ := hv.args
  injection e0 with _ e0
  injection e1 with _ e1
  injection e2 with e2
  subst e0; subst e1; subst e2; subst e4
  obtain ⟨z, q, b, he, hz⟩ := nameV_cases q0 q2 q4
  have CN0 := Lib.hid (fun W => pname_any q0 q1 q2 q3 q4 q5 W)
  rw [he] at CN0
  have e58 := isN_is (n := q1) (a := a) hz [58, 45] 2
  obtain ⟨bv, hbv⟩ : ∃ bv, isN (.mk q0 q1 q2 q4 a) [58, 45] 2 = bv := ⟨_, rfl⟩
  have HBV := Lib.hid hbv
  have HE58 := Lib.hid ((isN_zq (n := q1) (a := a) hz (l := [58, 45]) (by simp) 2).symm.trans hbv)
  clear hv hok hW0 hargs hA e58 he hz hbv hN
  go_enter Tryz.func9, Tryz.ntmps9
  go_wp2_with fail
  rw [← HW0.out]
  refine (CN0.out _).mono ?_
  rintro e w1 ⟨rfl, hx⟩
  have HX1 := Lib.hid hx
  have HT1 := Lib.hid ((hx.block w.heap.size (heap_lt HT0.out)).trans HT0.out)
  have hl1 := heap_lt HT1.out
  obtain ⟨x0, x1, x2, x3⟩ := box4t HT1.out
  clear hx CN0 HT0
  go_upto_region 3 with fail
  go_cut [28] (fun s28 wx => s28 = .bool bv ∧ w1 = wx)
  case first =>
   have hz1 := HE58.out
   cases h1 : (z.toList == [58, 45]) with
   | false =>
    rw [h1] at hz1
    have HE := Lib.hid (show bv = false from hz1.symm)
    clear hz1
    go_wp2_with fail
    go_meet
    exact ⟨by rw [HE.out], rfl⟩
   | true =>
    rw [h1] at hz1
    have HE := Lib.hid (show bv = ((q : Int) == 2) from hz1.symm)
    clear hz1
    go_wp2_with fail
    go_meet
    exact ⟨by rw [HE.out], rfl⟩
  case rest =>
   obtain ⟨rfl, rfl⟩ := hcut
   go_upto_if 28 with fail
   go_cut [] (fun wx => ∃ (th tb : T) (h0 h1 : Int) (h2 : ByteArray) (h3 : Option Addr) (h4 h5 : Nat) (b0 b1 : Int) (b2 : ByteArray) (b3 : Option Addr) (b4 b5 : Nat), SpM (.mk q0 q1 q2 q4 a) S w wx th tb h0 h1 h2 h3 h4 h5 b0 b1 b2 b3 b4 b5)
   case first =>
    cases bv with
    | false =>
     have S1 := Lib.hid ((SpM.start (SpB.start HW0.out) HV.out HOK.out HBV.out).below HX1.out)
     go_wp2_with fail
     go_meet
     exact ⟨_, _, _, _, _, _, _, _, _, _, _, _, _, _, S1.out⟩
    | true =>
     obtain ⟨n1, s1, a1, he, _⟩ := isN_two HBV.out
     injection he with e1 e2 e3 e4 e5
     subst e1; subst e2; subst e3; subst e4; subst e5
     have S1 := Lib.hid ((SpB.start HW0.out).below HX1.out)
     obtain ⟨_, _, _, _, _, _, hargs⟩ := (HV.out.below S1.out.low).args
     obtain ⟨g, c0, c1, c2, c3, c4, c5, rfl, hgN, hgl, d0, d1, d2, d3, hta⟩ := hargs 0 (by omega)
     obtain ⟨g', e0, e1, e2, e3, e4, e5, hA, _, _, f0, f1, f2, f3, htb⟩ := hargs 1 (by omega)
     injection hA with hA
     injection hA with hA _
     subst hA
     simp only [Nat.zero_mul, Nat.zero_add, Nat.one_mul] at d0 d1 d2 d3 f0 f1 f2 f3
     have hgn := HN.out g hgN
     have gn3 : g ≠ w.heap.size + 1 + 1 + 1 := by omega
     have gn4 : g ≠ w.heap.size + 1 + 1 + 1 + 1 := by omega
     have gn0 : w.heap.size ≠ w.heap.size + 1 + 1 + 1 := by omega
     obtain ⟨_, _, zf, uf⟩ := S1.out.fz
     obtain ⟨y0, y1, y2, y3⟩ := box4t S1.out.hd
     obtain ⟨z0, z1, z2, z3⟩ := box4t S1.out.bd
     have HTA := Lib.hid hta
     have HTB := Lib.hid htb
     clear hargs hta htb hgN
     go_wp2_with fail
     go_region
     all_goals
      go_wp2_with fail
      go_meet
      exact ⟨_, _, _, _, _, _, _, _, _, _, _, _, _, _, (SpM.neck S1.out HBV.out HOK.out HN.out HTA.out HTB.out rfl).drew⟩
   case rest =>
    obtain ⟨th, tb, h0, h1, h2, h3, h4, h5, b0, b1, b2, b3, b4, b5, hm⟩ := hcut
    cases th with
    | nil => exact hm.vh.tin.elim
    | mk k1 n1 s1 m1 ah =>
     obtain ⟨e0, e1, e2, e4, _, _, _⟩ := hm.vh.args
     injection e0 with _ e0
     injection e1 with _ e1
     injection e2 with e2
     subst e0; subst e1; subst e2; subst e4
     have M := Lib.hid hm
     obtain ⟨z', q', bb, he', hz'⟩ := nameV_cases h0 h2 h4
     have HEQ := Lib.hid hm.eq
     obtain ⟨cv, hcv⟩ : ∃ cv, ctlT (.mk h0 h1 h2 h4 ah) = cv := ⟨_, rfl⟩
     obtain ⟨i1, hi1⟩ : ∃ i1, isN (.mk h0 h1 h2 h4 ah) [58, 45] 1 = i1 := ⟨_, rfl⟩
     obtain ⟨i2, hi2⟩ : ∃ i2, isN (.mk h0 h1 h2 h4 ah) [58, 45] 2 = i2 := ⟨_, rfl⟩
     have HG := Lib.hid (show ((nameT (.mk h0 h1 h2 h4 ah)).isNone || ctlT (.mk h0 h1 h2 h4 ah) || isN (.mk h0 h1 h2 h4 ah) [58, 45] 1 || isN (.mk h0 h1 h2 h4 ah) [58, 45] 2) = (!bb || cv || i1 || i2) by rw [name_none hz', hcv, hi1, hi2])
     have CN := Lib.hid (fun W => pname_any h0 h1 h2 h3 h4 h5 W)
     rw [he'] at CN
     have CC := Lib.hid (fun W => pcontrol_any h0 h1 h2 h3 h4 h5 W)
     rw [ctlV_is (n := h1) (a := ah), hcv] at CC
     have f1 := isN_is (n := h1) (a := ah) hz' [58, 45] 1
     have f2 := isN_is (n := h1) (a := ah) hz' [58, 45] 2
     rw [hi1] at f1
     rw [hi2] at f2
     unfold isV at f1 f2
     rw [nm_list] at f1 f2
     have F1 := Lib.hid f1
     have F2 := Lib.hid f2
     have HBB := Lib.hid (show bb = false → (z'.toList == [58, 45]) = false from fun h => by
      rcases hz' with ⟨h1, _⟩ | ⟨_, _, _, h1, _⟩
      ·rw [h] at h1; cases h1
      ·rw [h1, ByteArray.toList_eq]; rfl)
     clear hm he' hz' hcv hi1 hi2 f1 f2
     have hlM := M.out.b.lt
     obtain ⟨y0, y1, y2, y3⟩ := box4t M.out.b.hd
     obtain ⟨z0, z1, z2, z3⟩ := box4t M.out.b.r1
     obtain ⟨u0, u1, u2, u3⟩ := box4t M.out.b.r2
     obtain ⟨v0, v1, v2, v3⟩ := box4t M.out.b.bd
     obtain ⟨zf, uf, _, _⟩ := M.out.b.fz
     go_wp2_with fail
     refine (CN.out _).mono ?_
     rintro e w2 ⟨rfl, hx⟩
     have S2 := Lib.hid (M.out.below hx)
     clear hx CN
     clear y0 y1 y2 y3 z0 z1 z2 z3 u0 u1 u2 u3 v0 v1 v2 v3 zf uf
     have hlS2 := S2.out.b.lt
     obtain ⟨y0, y1, y2, y3⟩ := box4t S2.out.b.hd
     obtain ⟨z0, z1, z2, z3⟩ := box4t S2.out.b.r1
     obtain ⟨u0, u1, u2, u3⟩ := box4t S2.out.b.r2
     obtain ⟨v0, v1, v2, v3⟩ := box4t S2.out.b.bd
     obtain ⟨zf, uf, _, _⟩ := S2.out.b.fz
     have HI12 := Lib.hid (show ((z'.toList == [58, 45]) && (((q' : Int) == 1) || ((q' : Int) == 2))) = (i1 || i2) by
      rw [F1.out, F2.out]
      cases bb with
      | true => cases (z'.toList == [58, 45]) <;> simp
      | false =>
       have := HBB.out rfl
       simp [this])
     clear F1 F2
     obtain ⟨cb, hcb⟩ : ∃ cb, (!bb || cv || i1 || i2) = cb := ⟨_, rfl⟩
     have HCB := Lib.hid hcb
     have HG2 := Lib.hid (HG.out.trans hcb)
     clear hcb HG
     go_upto_region 6 with fail
     go_cut [60] (fun s60 wx => s60 = .bool cb ∧ SpM (.mk q0 q1 q2 q4 a) S w wx (.mk h0 h1 h2 h4 ah) tb h0 h1 h2 h3 h4 h5 b0 b1 b2 b3 b4 b5)
     case first =>
      cases bb with
      | false =>
       have HE := Lib.hid (show cb = true by rw [← HCB.out]; rfl)
       go_wp2_with fail
       go_meet
       exact ⟨by rw [HE.out], S2.out⟩
      | true =>
       go_wp2_with fail
       refine (CC.out _).mono ?_
       rintro e w3 ⟨rfl, hx⟩
       have S3 := Lib.hid (S2.out.below hx)
       clear hx CC y0 y1 y2 y3 z0 z1 z2 z3 u0 u1 u2 u3 v0 v1 v2 v3 zf uf
       cases cv with
       | true =>
        have HE := Lib.hid (show cb = true by rw [← HCB.out]; simp)
        go_wp2_with fail
        go_meet
        exact ⟨by rw [HE.out], S3.out⟩
       | false =>
        have HE := Lib.hid (show cb = ((z'.toList == [58, 45]) && (((q' : Int) == 1) || ((q' : Int) == 2))) by rw [← HCB.out, HI12.out]; simp)
        cases h7 : (z'.toList == [58, 45]) with
        | false =>
         have HE2 := Lib.hid (show cb = false by rw [HE.out, h7]; rfl)
         go_wp2_with fail
         go_meet
         exact ⟨by rw [HE2.out], S3.out⟩
        | true =>
         cases h8 : ((q' : Int) == 1) with
         | true =>
          have HE2 := Lib.hid (show cb = true by rw [HE.out, h7, h8]; rfl)
          go_wp2_with fail
          go_meet
          exact ⟨by rw [HE2.out], S3.out⟩
         | false =>
          have HE2 := Lib.hid (show cb = ((q' : Int) == 2) by rw [HE.out, h7, h8]; rfl)
          go_wp2_with fail
          go_meet
          exact ⟨by rw [HE2.out], S3.out⟩
     case rest =>
      obtain ⟨rfl, hm3⟩ := hcut
      have S5 := Lib.hid hm3
      clear hm3 CC S2 y0 y1 y2 y3 z0 z1 z2 z3 u0 u1 u2 u3 v0 v1 v2 v3 zf uf
      have hlS5 := S5.out.b.lt
      obtain ⟨y0, y1, y2, y3⟩ := box4t S5.out.b.hd
      obtain ⟨z0, z1, z2, z3⟩ := box4t S5.out.b.r1
      obtain ⟨u0, u1, u2, u3⟩ := box4t S5.out.b.r2
      obtain ⟨v0, v1, v2, v3⟩ := box4t S5.out.b.bd
      obtain ⟨zf, uf, _, _⟩ := S5.out.b.fz
      cases cb with
      | true =>
       have HR := Lib.hid (show ∀ S W x y, SplR (splitH (.mk h0 h1 h2 h4 ah) tb) S W 100 x y from fun S W x y => spl_100 HG2.out S W x y)
       go_wp2_with fail
       obtain ⟨g1, g2, g3, _⟩ := S5.out.b.put HN.out (.int .i64 0) (.int .i64 0) (.string ⟨#[]⟩) (.slice none 0 0) (.int .i64 0) (.int .i64 0) (.string ⟨#[]⟩) (.slice none 0 0) rfl
       obtain ⟨p0, p1, p2, p3⟩ := box4t g1
       obtain ⟨o0, o1, o2, o3⟩ := box4t g2
       refine bodyPost_ret (v := .tuple #[.agg #[.int .i64 0, .int .i64 0, .string ⟨#[]⟩, .slice none 0 0], .agg #[.int .i64 0, .int .i64 0, .string ⟨#[]⟩, .slice none 0 0], .int .i64 100]) (by simp [results, go_sem, p0, p1, p2, p3, o0, o1, o2, o3]) rfl ?_
       exact ⟨⟨_, _, _, _, _, _, _, _, _, _, _, _, _, rfl, Lib.hid (by rw [HEQ.out]; exact HR.out _ _ _ _)⟩, g3⟩
      | false =>
       have CG := Lib.hid (pgoalsx_any S5.out.ob (fun b hb => by have := HN.out b hb; have := S5.out.b.low.size; omega) S5.out.vb)
       obtain ⟨wv, hwv⟩ : ∃ wv, wrongT tb = wv := ⟨_, rfl⟩
       rw [hwv] at CG
       have HWV := Lib.hid hwv
       clear hwv
       have HGF := Lib.hid (show ((nameT (.mk h0 h1 h2 h4 ah)).isNone || ctlT (.mk h0 h1 h2 h4 ah) || isN (.mk h0 h1 h2 h4 ah) [58, 45] 1 || isN (.mk h0 h1 h2 h4 ah) [58, 45] 2) = false by exact HG2.out)
       cases wv with
       | true =>
        go_wp2_with fail
        refine CG.out.mono ?_
        rintro e w9 ⟨⟨Ag, mg, cg, rfl⟩, hx⟩
        have S9 := Lib.hid (S5.out.below hx)
        clear hx CG y0 y1 y2 y3 z0 z1 z2 z3 u0 u1 u2 u3 v0 v1 v2 v3 zf uf
        have hlS9 := S9.out.b.lt
        obtain ⟨y0, y1, y2, y3⟩ := box4t S9.out.b.hd
        obtain ⟨z0, z1, z2, z3⟩ := box4t S9.out.b.r1
        obtain ⟨u0, u1, u2, u3⟩ := box4t S9.out.b.r2
        obtain ⟨v0, v1, v2, v3⟩ := box4t S9.out.b.bd
        obtain ⟨zf, uf, _, _⟩ := S9.out.b.fz
        have HR := Lib.hid (show ∀ S W x y, SplR (splitH (.mk h0 h1 h2 h4 ah) tb) S W 101 x y from fun S W x y => spl_101 HGF.out HWV.out S W x y)
        go_wp2_with fail
        obtain ⟨g1, g2, g3, _⟩ := S9.out.b.put HN.out (.int .i64 0) (.int .i64 0) (.string ⟨#[]⟩) (.slice none 0 0) (.int .i64 0) (.int .i64 0) (.string ⟨#[]⟩) (.slice none 0 0) rfl
        obtain ⟨p0, p1, p2, p3⟩ := box4t g1
        obtain ⟨o0, o1, o2, o3⟩ := box4t g2
        refine bodyPost_ret (v := .tuple #[.agg #[.int .i64 0, .int .i64 0, .string ⟨#[]⟩, .slice none 0 0], .agg #[.int .i64 0, .int .i64 0, .string ⟨#[]⟩, .slice none 0 0], .int .i64 101]) (by simp [results, go_sem, p0, p1, p2, p3, o0, o1, o2, o3, erW]) rfl ?_
        exact ⟨⟨_, _, _, _, _, _, _, _, _, _, _, _, _, rfl, Lib.hid (by rw [HEQ.out]; exact HR.out _ _ _ _)⟩, g3⟩
       | false =>
        go_wp2_with fail
        refine CG.out.mono ?_
        rintro e w9 ⟨⟨Ag, mg, cg, rfl⟩, hx⟩
        have S9 := Lib.hid (S5.out.below hx)
        clear hx CG y0 y1 y2 y3 z0 z1 z2 z3 u0 u1 u2 u3 v0 v1 v2 v3 zf uf
        have hlS9 := S9.out.b.lt
        obtain ⟨y0, y1, y2, y3⟩ := box4t S9.out.b.hd
        obtain ⟨z0, z1, z2, z3⟩ := box4t S9.out.b.r1
        obtain ⟨u0, u1, u2, u3⟩ := box4t S9.out.b.r2
        obtain ⟨v0, v1, v2, v3⟩ := box4t S9.out.b.bd
        obtain ⟨zf, uf, _, _⟩ := S9.out.b.fz
        go_wp2_with fail
        have q12 : w.heap.size + 1 ≠ w.heap.size + 2 := by omega
        have q13 : w.heap.size + 1 ≠ w.heap.size + 3 := by omega
        have q14 : w.heap.size + 1 ≠ w.heap.size + 4 := by omega
        go_region
        obtain ⟨WB, hWB⟩ : ∃ WB, (((((((w9.setCell ⟨w.heap.size + 1, 0, none⟩ (.int .i64 h0)).setCell ⟨w.heap.size + 1, 1, none⟩ (.int .i64 h1)).setCell ⟨w.heap.size + 1, 2, none⟩ (.string h2)).setCell ⟨w.heap.size + 1, 3, none⟩ (.slice h3 h4 h5)).setCell ⟨w.heap.size + 1 + 1, 0, none⟩ (.int .i64 b0)).setCell ⟨w.heap.size + 1 + 1, 1, none⟩ (.int .i64 b1)).setCell ⟨w.heap.size + 1 + 1, 2, none⟩ (.string b2)).setCell ⟨w.heap.size + 1 + 1, 3, none⟩ (.slice b3 b4 b5) = WB := ⟨_, rfl⟩
        rw [hWB]
        obtain ⟨g1, g2, g3, g4⟩ := S9.out.b.put HN.out _ _ _ _ _ _ _ _ hWB
        obtain ⟨p0, p1, p2, p3⟩ := box4t (w := WB.drew) g1
        obtain ⟨o0, o1, o2, o3⟩ := box4t (w := WB.drew) g2
        have HB := Lib.hid g3.drew
        have HR := Lib.hid (spl_ok HGF.out HWV.out ((g4 _ _ S9.out.vh).below (Below.refl _ _).drew) ((g4 _ _ S9.out.vb).below (Below.refl _ _).drew) S9.out.oh S9.out.ob)
        clear g1 g2 g3 g4 hWB
        go_wp2_with fail
        refine bodyPost_ret (v := .tuple #[.agg #[.int .i64 h0, .int .i64 h1, .string h2, .slice h3 h4 h5], .agg #[.int .i64 b0, .int .i64 b1, .string b2, .slice b3 b4 b5], .int .i64 0]) (by simp [results, go_sem, p0, p1, p2, p3, o0, o1, o2, o3]) rfl ?_
        exact ⟨⟨_, _, _, _, _, _, _, _, _, _, _, _, _, rfl, Lib.hid (by rw [HEQ.out]; exact HR.out)⟩, HB.out⟩
end Go.Proofs.YtibcpdmeigdgpaaGreatDoor
