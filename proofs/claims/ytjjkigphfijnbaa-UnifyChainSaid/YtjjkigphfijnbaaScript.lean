/- The walk through the law UnifyScript. -/
import Derived.Test.YtjjkigphfijnbaaScript0
import Derived.Deep.RegionHeld3
import Derived.Deep.DrawnRows
namespace Go.Proofs.Ytjjkigphfijnbaa
open Go.RowKit
attribute [local go_sem ↓] Go.wp_at_zero Go.wp_at_succ

theorem uni_vars : ∃ f, uniF 2000 [] [(varT 0, varT 1)] = .ok [(1, varT 0)] f := by
  refine ⟨1999, ?_⟩
  simp [uniF, walkN_nil, stepU, varT]
theorem presolve_any {w : World} {eb mb N : Nat} {L : Bs} (h : EnvP w eb mb N L) {f : Nat} {t : T} {v : Value} (hv : TP w (fun _ => True) t v) (ht : t.ok) (hd : Deep L f t) :
    Calls Try.prog 18 #[.pointer (some ⟨eb, 0, none⟩), v] w fun e w' => (∃ v', e = .returned v' ∧ TP w' (fun _ => True) (resF L f t) v') ∧ Below w.heap.size w w' :=
  (pres_any h.ok f t ht hd w w eb mb N v h hv (Below.refl _ _)).mono fun _ _ ⟨⟨v', e1, h1⟩, h2⟩ => ⟨⟨v', e1, h1.more fun _ _ => trivial⟩, h2⟩
theorem rresolve_rb {w : World} {rb : Nat} {L : Bs} (h : RB w rb L) {f : Nat} {t : T} {v : Value} (hv : TP w (fun _ => True) t v) (ht : t.ok) (hd : Deep L f t) :
    Calls Try.prog 23 #[.pointer (some ⟨rb, 0, none⟩), v] w fun e w' => (∃ v', e = .returned v' ∧ TP w' (fun _ => True) (resF L f t) v') ∧ Below w.heap.size w w' := by
  obtain ⟨⟨A, c, h1, h2⟩, h3⟩ := h
  exact rresolve_any h1 h2 h3 hv ht hd
set_option maxRecDepth 100000 in
set_option maxHeartbeats 16000000 in
theorem script_any (s : ByteArray) (w : World) : Calls Try.prog 6 #[.string s] w fun e w' => e = .returned (.bool true) ∧ Below w.heap.size w w' := by
  go_enter Try.func6, Try.ntmps6
  go_wp2_with fail
  refine (pairs_any s _).mono ?_
  rintro e w1 ⟨⟨v, ps, rfl, hq, hok, hlen⟩, hb1⟩
  obtain ⟨QA, qc, rfl⟩ : ∃ QA qc, v = .slice QA ps.length qc := by
    obtain ⟨xs, hx, _⟩ := hq
    obtain ⟨QA, qc, e, _⟩ := own_open hx
    exact ⟨QA, qc, e⟩
  have HQ := Lib.hid hq
  have OK := Lib.hid hok
  have B1 := Lib.hid hb1
  clear hq hok hb1
  go_wp2_with fail
  refine (unew_any _).mono ?_
  rintro e w2 ⟨⟨eb, mb, rfl, hmb, he⟩, hb2⟩
  have HE := Lib.hid he
  have B2 := Lib.hid hb2
  clear he hb2
  go_wp2_with fail
  refine (rnew_any _).mono ?_
  rintro e w3 ⟨⟨rb, rfl, hrb, hr⟩, hb3⟩
  have F0 := Lib.hid (show FS w w3 eb mb rb 0 [] (.slice QA ps.length qc) ps from
    ⟨HE.out.below hb3, hr, (HQ.out.below B2.out).below hb3, (B1.out.trans (B2.out.mono B1.out.size)).trans (hb3.mono (Nat.le_trans B1.out.size B2.out.size)), Nat.le_trans B1.out.size hmb, Nat.le_trans (Nat.le_trans B1.out.size B2.out.size) hrb⟩)
  clear HQ HE B1 B2 hr hb3 hmb hrb
  by_cases hn : ps.length = 0
  · have hn' : ((ps.length : Int) == 0) = true := beq_iff_eq.mpr (by omega)
    have HN := Lib.hid hn
    clear hn
    go_wp2_with fail
    refine (lvar_any 0 _).mono ?_
    rintro e w4 ⟨rfl, h4⟩
    have F4 := Lib.hid (F0.out.below h4)
    clear h4
    go_wp2_with fail
    refine (lvar_any 1 _).mono ?_
    rintro e w5 ⟨rfl, h5⟩
    have F5 := Lib.hid (F4.out.below h5)
    clear h5
    obtain ⟨f, hf⟩ := uni_vars
    have CU := Lib.hid (unify_u F5.out.env (by omega) (varV_tp w5 (fun _ => True) 0) (varV_tp w5 (fun _ => True) 1) (varT_ok (by omega) (by omega)) (varT_ok (by omega) (by omega)) hf)
    clear hf
    go_wp2_with fail
    refine CU.out.mono ?_
    rintro e w6 ⟨⟨UA, uc, rfl, _, he6⟩, hb6⟩
    have A6 := Lib.hid (F5.out.afterU hb6 he6)
    have HE := Lib.hid (show EnvP w6 eb mb (0 + 2000) [(1, varT 0)] from by simpa [newB] using he6)
    simp only [resErr]
    clear he6 hb6
    go_wp2_with fail
    refine (ubound_any HE.out (n := 1) (by omega) (by omega)).mono ?_
    rintro e w7 ⟨rfl, h7⟩
    have A7 := Lib.hid (A6.out.2.2.2.trans (h7.mono A6.out.2.2.2.size))
    clear h7
    go_wp2_with fail
    go_ret
    exact ⟨rfl, A7.out⟩
  · have hn' : ((ps.length : Int) == 0) = false := beq_eq_false_iff_ne.mpr (by omega)
    have HN := Lib.hid hn
    clear hn
    go_wp2_with fail
    go_loopw [8, 9, 10, 11, 12, 13] (fun iv _ _ _ _ _ wr => ∃ (i : Nat) (L : Bs), iv = .int .i64 (i : Int) ∧ i ≤ ps.length ∧ FS w wr eb mb rb (2000 * i) L (.slice QA ps.length qc) ps) (fun iv _ _ _ _ _ _ => ps.length - (intOf iv).toNat)
    case atStart => exact ⟨0, [], rfl, Nat.zero_le _, F0.out⟩
    case round =>
      clear F0
      obtain ⟨i, L, rfl, hi, hf⟩ := hrel
      have F := Lib.hid hf
      clear hf
      by_cases hlt : i < ps.length
      · have hlt' : (i : Int) < (ps.length : Int) := by omega
        have hwl := F.out.low.size
        obtain ⟨p, hp⟩ : ∃ p, ps[i]? = some p := ⟨_, List.getElem?_eq_getElem hlt⟩
        have hpm := List.mem_of_getElem? hp
        obtain ⟨op1, op2⟩ := OK.out p hpm
        obtain ⟨g, k0, k1, k2, A0, m0, c0, j0, j1, j2, B0, n0, d0, rfl, hgl, a0, a1, a2, a3, b0, b1, b2, b3, ta, tb⟩ := F.out.row.get hp
        obtain ⟨csq, fq, hgq⟩ := F.out.row.blk
        obtain ⟨r, hr⟩ : ∃ r, uniF 2000 L [(p.1, p.2)] = r := ⟨_, rfl⟩
        have hNN : 2000 * i + 2000 ≤ 1000000 := by omega
        have FD := Lib.hid (F.out.below (Below.refl _ _).drew)
        have CU0 := unify_u FD.out.env hNN (ta.below (Below.refl _ _).drew) (tb.below (Below.refl _ _).drew) op1 op2 hr
        have CR0 := fun (W : World) (h1 : RB W rb L) (h2 : TP W (fun _ => True) p.1 _) (h3 : TP W (fun _ => True) p.2 _) => runify_u (w := W) h1 h2 h3 op1 op2 hr (va := .agg #[.int .i64 k0, .int .i64 k1, .string k2, .slice A0 m0 c0]) (vb := .agg #[.int .i64 j0, .int .i64 j1, .string j2, .slice B0 n0 d0])
        obtain ⟨z, hz⟩ : ∃ z, resErr r = z := ⟨_, rfl⟩
        obtain ⟨M, hM⟩ : ∃ M, newB L r = M := ⟨_, rfl⟩
        rw [hz, hM] at CU0
        rw [hz, hM] at CR0
        obtain ⟨ns, hns⟩ : ∃ ns, M.map Prod.fst = ns := ⟨_, rfl⟩
        obtain ⟨L', hL'⟩ : ∃ L', L ++ M = L' := ⟨_, rfl⟩
        rw [hns, hL'] at CU0 CR0
        have HF := Lib.hid (show EnvOk L' → ns.length ≤ 1000 from fun h => by rw [← hL'] at h; rw [← hns]; exact new_few h)
        have CU := Lib.hid CU0
        have CR := Lib.hid CR0
        have KP := Lib.hid (show ∀ w' : World, w'.heap[g]? = wr.heap[g]? → w'.cell? ⟨g, i * 8, none⟩ = some (.int .i64 k0) ∧ w'.cell? ⟨g, i * 8 + 1, none⟩ = some (.int .i64 k1) ∧ w'.cell? ⟨g, i * 8 + 2, none⟩ = some (.string k2) ∧ w'.cell? ⟨g, i * 8 + 3, none⟩ = some (.slice A0 m0 c0) ∧ w'.cell? ⟨g, i * 8 + 4, none⟩ = some (.int .i64 j0) ∧ w'.cell? ⟨g, i * 8 + 5, none⟩ = some (.int .i64 j1) ∧ w'.cell? ⟨g, i * 8 + 6, none⟩ = some (.string j2) ∧ w'.cell? ⟨g, i * 8 + 7, none⟩ = some (.slice B0 n0 d0) from fun w' hw =>
          ⟨(World.cell?_of_block hw).trans a0, (World.cell?_of_block hw).trans a1, (World.cell?_of_block hw).trans a2, (World.cell?_of_block hw).trans a3, (World.cell?_of_block hw).trans b0, (World.cell?_of_block hw).trans b1, (World.cell?_of_block hw).trans b2, (World.cell?_of_block hw).trans b3⟩)
        have q2d : wr.drew.heap[g]? = wr.heap[g]? := rfl
        have HG := Lib.hid hgq
        have TA := Lib.hid (ta.below (Below.refl _ _).drew)
        have TB := Lib.hid (tb.below (Below.refl _ _).drew)
        clear hgq hr ta tb hpm a0 a1 a2 a3 b0 b1 b2 b3 hp CU0 CR0 hz hM hns hL' F
        go_wp2_with fail
        go_region_held3 (fun w' => w'.cell? ⟨g, i * 8, none⟩ = some (.int .i64 k0) ∧ w'.cell? ⟨g, i * 8 + 1, none⟩ = some (.int .i64 k1) ∧ w'.cell? ⟨g, i * 8 + 2, none⟩ = some (.string k2) ∧ w'.cell? ⟨g, i * 8 + 3, none⟩ = some (.slice A0 m0 c0) ∧ w'.cell? ⟨g, i * 8 + 4, none⟩ = some (.int .i64 j0) ∧ w'.cell? ⟨g, i * 8 + 5, none⟩ = some (.int .i64 j1) ∧ w'.cell? ⟨g, i * 8 + 6, none⟩ = some (.string j2) ∧ w'.cell? ⟨g, i * 8 + 7, none⟩ = some (.slice B0 n0 d0))
          (first | (with_reducible exact KP.out _ q2d) | (with_reducible exact KP.out _ q5))
          (((with_reducible refine CU.out.mono ?_); rintro e w5 ⟨⟨UA, uc, rfl, hu, he5⟩, hb5⟩; have q5 := (World.heap_of_far hb5 FD.out.env.isMap.spare HG.out).trans q2d))
        have HSP := Lib.hid FD.out.env.isMap.spare
        have A5 := Lib.hid (FD.out.afterU hb5 he5)
        have DD := Lib.hid (Below.refl w5.heap.size w5).drew
        have TA5 := Lib.hid ((TA.out.far hb5 HSP.out).below DD.out)
        have TB5 := Lib.hid ((TB.out.far hb5 HSP.out).below DD.out)
        have CR5 := Lib.hid (CR.out w5.drew (A5.out.2.1.below DD.out) TA5.out TB5.out)
        have HU5 := Lib.hid (hu.below DD.out)
        have HB5 := Lib.hid (hb5.low DD.out hb5.size)
        have HE5 := Lib.hid (he5.below DD.out)
        have q5d : w5.drew.heap[g]? = wr.heap[g]? := q5
        clear hu he5 hb5 CR TA TB CU A5 DD
        go_wp2_with fail
        go_region_held3 (fun w' => w'.cell? ⟨g, i * 8, none⟩ = some (.int .i64 k0) ∧ w'.cell? ⟨g, i * 8 + 1, none⟩ = some (.int .i64 k1) ∧ w'.cell? ⟨g, i * 8 + 2, none⟩ = some (.string k2) ∧ w'.cell? ⟨g, i * 8 + 3, none⟩ = some (.slice A0 m0 c0) ∧ w'.cell? ⟨g, i * 8 + 4, none⟩ = some (.int .i64 j0) ∧ w'.cell? ⟨g, i * 8 + 5, none⟩ = some (.int .i64 j1) ∧ w'.cell? ⟨g, i * 8 + 6, none⟩ = some (.string j2) ∧ w'.cell? ⟨g, i * 8 + 7, none⟩ = some (.slice B0 n0 d0))
          (first | (with_reducible exact KP.out _ q5d) | (with_reducible exact KP.out _ q6))
          (((with_reducible refine CR5.out.mono ?_); rintro e w6 ⟨⟨UB, uc2, rfl, hv6, hr6⟩, hb6⟩; have q6 := (World.heap_of_far hb6 (FD.out.afterU HB5.out HE5.out).2.1.spare ((HB5.out.far HSP.out HG.out (by decide)))).trans q5d))
        have SP5 := Lib.hid (FD.out.afterU HB5.out HE5.out).2.1.spare
        have F6 := Lib.hid (FD.out.after HB5.out HE5.out hb6 hr6)
        have HV6 := Lib.hid hv6
        have HU6 := Lib.hid (show IRow w6 (.slice UA ns.length uc) ns from own_spare HU5.out hb6 SP5.out (by decide))
        have hzz : (z != z) = false := by simp
        have hfew := HF.out F6.out.env.ok
        have CS := Lib.hid (lsame_any HU6.out HV6.out (by omega))
        clear hv6 hr6 hb6 q5 q6 q5d q2d KP HG HSP TA5 TB5 CR5 HU5 HB5 HE5 FD SP5 HF
        go_wp2_with fail
        refine CS.out.mono ?_
        rintro e w7 ⟨rfl, h7⟩
        have F7 := Lib.hid (F6.out.below h7)
        clear h7 F6 HU6 HV6 CS
        go_wp2_with fail
        refine (lgreat_any F7.out.ref).mono ?_
        rintro e w8 ⟨⟨gb, rfl⟩, h8⟩
        have F8 := Lib.hid (F7.out.below h8)
        clear h8 F7
        cases gb
        · go_wp2_with fail
          go_loopw [13] (fun nv wr => ∃ n : Nat, nv = .int .i64 (n : Int) ∧ n ≤ 24 ∧ FS w wr eb mb rb (2000 * i + 2000) L' (.slice (some ⟨g, 0, none⟩) ps.length qc) ps) (fun nv _ => 24 - (intOf nv).toNat)
          case atStart => exact ⟨0, rfl, by omega, F8.out⟩
          case round =>
            clear F8
            obtain ⟨n, rfl, hn24, hf⟩ := hrel
            have F := Lib.hid hf
            clear hf
            by_cases hn : n < 24
            · have hn' : (n : Int) < 24 := by omega
              have hok := varT_ok (n := (n : Int)) (by omega) (by omega)
              obtain ⟨d, hd⟩ := F.out.env.ok.deep hok
              have HD := Lib.hid hd
              have HTH := Lib.hid (F.out.env.ok.resF_thin d _ hok hd)
              have CB := Lib.hid (ubound_any F.out.env (n := (n : Int)) (by omega) (by omega))
              have CRB := Lib.hid (fun (W : World) (h : RB W rb L') => rbound_any h (n : Int))
              obtain ⟨bb, hbb⟩ : ∃ bb, (findB L' (n : Int)).isSome = bb := ⟨_, rfl⟩
              rw [hbb] at CB CRB
              have hbn : (bb != bb) = false := by simp
              clear hbb hd
              go_wp2_with fail
              refine CB.out.mono ?_
              rintro e w9 ⟨rfl, h9⟩
              have F9 := Lib.hid (F.out.below h9)
              clear h9 CB F
              go_wp2_with fail
              refine (CRB.out _ F9.out.ref).mono ?_
              rintro e wA ⟨rfl, hA⟩
              have FA := Lib.hid (F9.out.below hA)
              clear hA F9 CRB
              go_wp2_with fail
              refine (lvar_any (n : Int) _).mono ?_
              rintro e wB ⟨rfl, hB⟩
              have FB := Lib.hid (FA.out.below hB)
              clear hB FA
              have CP := Lib.hid (presolve_any FB.out.env (varV_tp wB _ (n : Int)) hok HD.out)
              go_wp2_with fail
              refine CP.out.mono ?_
              rintro e wC ⟨⟨vC, rfl, htC⟩, hC⟩
              have FC := Lib.hid (FB.out.below hC)
              have TC := Lib.hid htC
              clear hC FB CP htC
              go_wp2_with fail
              refine (lvar_any (n : Int) _).mono ?_
              rintro e wD ⟨rfl, hD⟩
              have FD := Lib.hid (FC.out.below hD)
              have TD := Lib.hid (TC.out.below hD)
              clear hD FC TC
              have CR := Lib.hid (rresolve_rb FD.out.ref (varV_tp wD _ (n : Int)) hok HD.out)
              go_wp2_with fail
              refine CR.out.mono ?_
              rintro e wE ⟨⟨vE, rfl, htE⟩, hE⟩
              have FE := Lib.hid (FD.out.below hE)
              have CS := Lib.hid (same_any HTH.out HTH.out (TD.out.below hE) htE (b := true) ⟨fun _ => eqT_refl HTH.out, fun _ => rfl⟩)
              clear hE FD TD htE CR
              go_wp2_with fail
              refine CS.out.mono ?_
              rintro e wG ⟨rfl, hG⟩
              have FG := Lib.hid (FE.out.below hG)
              clear hG FE CS
              go_wp2_with fail
              go_roundw
              case rel => exact ⟨n + 1, by go_num, by omega, FG.out⟩
              case measure => simp [intOf]; omega
            · have hn' : ¬ (n : Int) < 24 := by omega
              have F7 := Lib.hid (show FS w wr eb mb rb (2000 * (i + 1)) L' (.slice (some ⟨g, 0, none⟩) ps.length qc) ps from F.out)
              go_wp2_with fail
              go_roundw
              case rel => exact ⟨i + 1, L', by go_num, by omega, F7.out⟩
              case measure => simp [intOf]; omega
        · go_wp2_with fail
          go_ret
          exact ⟨rfl, F8.out.low⟩
      · have hlt' : ¬ (i : Int) < (ps.length : Int) := by omega
        go_wp2_with fail
        go_ret
        exact ⟨rfl, F.out.low⟩
end Go.Proofs.Ytjjkigphfijnbaa
