/- The walk through the law UnifyFails. -/
import Derived.Test.YtjjkigphfijnbaaFails0
import Derived.Deep.RegionHeld3
import Derived.Deep.DrawnRows
namespace Go.Proofs.Ytjjkigphfijnbaa
open Go.RowKit
attribute [local go_sem ↓] Go.wp_at_zero Go.wp_at_succ

set_option maxRecDepth 100000 in
set_option maxHeartbeats 8000000 in
theorem fails_any (s : ByteArray) (w : World) : Calls Try.prog 3 #[.string s] w fun e w' => e = .returned (.bool true) ∧ Below w.heap.size w w' := by
  go_enter Try.func3, Try.ntmps3
  go_wp2_with fail
  refine (pairs_any s _).mono ?_
  rintro e w1 ⟨⟨v, ps, rfl, hq, hok, hlen⟩, hb1⟩
  obtain ⟨QA, qc, rfl⟩ : ∃ QA qc, v = .slice QA ps.length qc := by
    obtain ⟨xs, hx, _⟩ := hq
    obtain ⟨QA, qc, e, _⟩ := own_open hx
    exact ⟨QA, qc, e⟩
  have HQ := Lib.hid hq
  have OK := Lib.hid hok
  have B1 := Lib.hid hb1
  clear hq hok hb1
  go_wp2_with fail
  refine (unew_any _).mono ?_
  rintro e w2 ⟨⟨eb, mb, rfl, hmb, he⟩, hb2⟩
  have HE := Lib.hid he
  have B2 := Lib.hid hb2
  clear he hb2
  go_wp2_with fail
  refine (rnew_any _).mono ?_
  rintro e w3 ⟨⟨rb, rfl, hrb, hr⟩, hb3⟩
  have F0 := Lib.hid (show FS w w3 eb mb rb 0 [] (.slice QA ps.length qc) ps from
    ⟨HE.out.below hb3, hr, (HQ.out.below B2.out).below hb3, (B1.out.trans (B2.out.mono B1.out.size)).trans (hb3.mono (Nat.le_trans B1.out.size B2.out.size)), Nat.le_trans B1.out.size hmb, Nat.le_trans (Nat.le_trans B1.out.size B2.out.size) hrb⟩)
  clear HQ HE B1 B2 hr hb3 hmb hrb
  by_cases hn : ps.length = 0
  · have hn' : ((ps.length : Int) == 0) = true := beq_iff_eq.mpr (by omega)
    have HN := Lib.hid hn
    clear hn
    go_wp2_with fail
    refine (unify_any F0.out.env (by omega) (TP.leaf _ _ 2 1 ⟨#[]⟩) (TP.leaf _ _ 2 2 ⟨#[]⟩) (intT_ok ⟨by omega, by omega⟩) (intT_ok ⟨by omega, by omega⟩)).mono ?_
    rintro e w4 h4
    rw [show uniF 2000 [] [(T.mk 2 1 ⟨#[]⟩ 0 fun _ => .nil, T.mk 2 2 ⟨#[]⟩ 0 fun _ => .nil)] = .unlike from uni_ints] at h4
    obtain ⟨⟨rfl, h5⟩, h6⟩ := h4
    have F4 := Lib.hid (F0.out.afterU h6 h5)
    clear h5 h6
    go_wp2_with fail
    go_ret
    exact ⟨rfl, F4.out.2.2.2⟩
  · have hn' : ((ps.length : Int) == 0) = false := beq_eq_false_iff_ne.mpr (by omega)
    have HN := Lib.hid hn
    clear hn
    go_wp2_with fail
    go_loopw [8, 9, 10, 11, 12, 13, 14, 15, 16, 17] (fun iv _ _ _ _ _ _ _ _ _ wr => ∃ (i : Nat) (L : Bs), iv = .int .i64 (i : Int) ∧ i ≤ ps.length ∧ FS w wr eb mb rb (2000 * i) L (.slice QA ps.length qc) ps) (fun iv _ _ _ _ _ _ _ _ _ _ => ps.length - (intOf iv).toNat)
    case atStart => exact ⟨0, [], rfl, Nat.zero_le _, F0.out⟩
    case round =>
      clear F0
      obtain ⟨i, L, rfl, hi, hf⟩ := hrel
      have F := Lib.hid hf
      clear hf
      by_cases hlt : i < ps.length
      · have hlt' : (i : Int) < (ps.length : Int) := by omega
        obtain ⟨item, ii1, ii2, ii3, ii4⟩ := elBool.hi
        have hwl := F.out.low.size
        go_wp2_with fail
        obtain ⟨wa, hwa⟩ : ∃ wa, wa = wr.alloc (Obj.cells #[] 4) := ⟨_, rfl⟩
        have FA := Lib.hid (show FS w wa eb mb rb (2000 * i) L (.slice QA ps.length qc) ps by rw [hwa]; exact F.out.below (belA (Below.refl _ _) _))
        have RA := Lib.hid (show wa.ownsRow w.heap.size 4 1 (.slice (some ⟨wr.heap.size, 0, none⟩) 0 0) 0 [] by rw [hwa]; exact ownsRow_more (ownsRow_empty _ _ 1 _ (heap_alloc_new _ _)) hwl)
        rw [← hwa]
        clear hwa
        go_loopw [9, 10] (fun v nv w2 => ∃ n : Nat, nv = .int .i64 (n : Int) ∧ n ≤ 24 ∧ w2.ownsRow w.heap.size 4 1 v n (wasL L n) ∧ FS w w2 eb mb rb (2000 * i) L (.slice QA ps.length qc) ps) (fun _ nv _ => 24 - (intOf nv).toNat)
        case atStart => exact ⟨0, rfl, by omega, RA.out, FA.out⟩
        case round =>
          clear FA RA F
          obtain ⟨n, rfl, hn24, hown, hf⟩ := hrel
          have F := Lib.hid hf
          have OWN := Lib.hid hown
          obtain ⟨WA, wc, rfl, hwc1, hwc2, _, hwx⟩ := own_open hown
          clear hf hown
          by_cases hn : n < 24
          · have hn' : (n : Int) < 24 := by omega
            go_wp2_with fail
            refine (ubound_any F.out.env (by omega) (by omega)).mono ?_
            rintro e w5 ⟨rfl, h5⟩
            have F5 := Lib.hid (F.out.below (belA h5 (Obj.cells #[.bool (findB L (n : Int)).isSome] 4)))
            have OWN5 := Lib.hid (own_below OWN.out (belA h5 (Obj.cells #[.bool (findB L (n : Int)).isSome] 4)))
            have hs5 := h5.size
            have hf5 := F.out.low.size
            clear h5 hwx
            go_wp2_with (at_builtin; go_must (refine wpList_append_lies _ rfl _ _ _ rfl w.heap.size 4 item (.bool false) 1 1 Try.underlying35 ii1 ii2 ii3 ii4 rfl (by omega) _ n _ rfl OWN5.out ⟨w5.heap.size, 0, none⟩ 1 1 [.bool (findB L (n : Int)).isSome] rfl rfl (World.news_of_block (heap_alloc_new _ _)) ?_ (by omega) (by unfold maxLen; omega) (by omega) (by simp; omega) _ rfl ?_))
            · intro u hu
              simp only [List.mem_cons, List.not_mem_nil, or_false] at hu
              rcases hu with rfl
              rfl
            intro g1 cap1 w10 hown1 hg1 hat1 _
            rw [← wasL_succ] at hown1
            have F10 := Lib.hid (F5.out.grown OWN5.out hg1 (by decide))
            have OWN10 := Lib.hid hown1
            clear hown1 hg1 hat1 F5 OWN5
            go_wp2_with fail
            go_roundw
            case rel => exact ⟨n + 1, by go_num, by omega, OWN10.out, F10.out⟩
            case measure => simp [intOf]; omega
          · obtain rfl : n = 24 := by omega
            obtain ⟨p, hp⟩ : ∃ p, ps[i]? = some p := ⟨_, List.getElem?_eq_getElem hlt⟩
            have hpm := List.mem_of_getElem? hp
            obtain ⟨op1, op2⟩ := OK.out p hpm
            obtain ⟨g, k0, k1, k2, A0, m0, c0, j0, j1, j2, B0, n0, d0, rfl, hgl, a0, a1, a2, a3, b0, b1, b2, b3, ta, tb⟩ := F.out.row.get hp
            obtain ⟨csq, fq, hgq⟩ := F.out.row.blk
            obtain ⟨r, hr⟩ : ∃ r, uniF 2000 L [(p.1, p.2)] = r := ⟨_, rfl⟩
            have hNN : 2000 * i + 2000 ≤ 1000000 := by omega
            have FD := Lib.hid (F.out.below (Below.refl _ _).drew)
            have CU0 := unify_u FD.out.env hNN (ta.below (Below.refl _ _).drew) (tb.below (Below.refl _ _).drew) op1 op2 hr
            have CR0 := fun (W : World) (h1 : RB W rb L) (h2 : TP W (fun _ => True) p.1 _) (h3 : TP W (fun _ => True) p.2 _) => runify_u (w := W) h1 h2 h3 op1 op2 hr (va := .agg #[.int .i64 k0, .int .i64 k1, .string k2, .slice A0 m0 c0]) (vb := .agg #[.int .i64 j0, .int .i64 j1, .string j2, .slice B0 n0 d0])
            have hnone := @newB_none L r
            obtain ⟨z, hz⟩ : ∃ z, resErr r = z := ⟨_, rfl⟩
            obtain ⟨M, hM⟩ : ∃ M, newB L r = M := ⟨_, rfl⟩
            rw [hz, hM] at hnone CU0
            rw [hz, hM] at CR0
            obtain ⟨ns, hns⟩ : ∃ ns, M.map Prod.fst = ns := ⟨_, rfl⟩
            obtain ⟨L', hL'⟩ : ∃ L', L ++ M = L' := ⟨_, rfl⟩
            rw [hns, hL'] at CU0 CR0
            have HN := Lib.hid (show z ≠ 0 → L' = L ∧ ns = [] from fun h => by rw [← hL', ← hns, hnone h]; exact ⟨by simp, rfl⟩)
            have HK := Lib.hid (show EnvOk L' → ∀ x ∈ ns, findB L x = none ∧ (findB L' x).isSome = true ∧ 0 ≤ x ∧ x < 1000 from fun h x hx => by rw [← hL'] at h ⊢; rw [← hns] at hx; exact new_key h hx)
            have HF := Lib.hid (show EnvOk L' → ns.length ≤ 1000 from fun h => by rw [← hL'] at h; rw [← hns]; exact new_few h)
            have CU := Lib.hid CU0
            have CR := Lib.hid CR0
            have KP := Lib.hid (show ∀ w' : World, w'.heap[g]? = wr.heap[g]? → w'.cell? ⟨g, i * 8, none⟩ = some (.int .i64 k0) ∧ w'.cell? ⟨g, i * 8 + 1, none⟩ = some (.int .i64 k1) ∧ w'.cell? ⟨g, i * 8 + 2, none⟩ = some (.string k2) ∧ w'.cell? ⟨g, i * 8 + 3, none⟩ = some (.slice A0 m0 c0) ∧ w'.cell? ⟨g, i * 8 + 4, none⟩ = some (.int .i64 j0) ∧ w'.cell? ⟨g, i * 8 + 5, none⟩ = some (.int .i64 j1) ∧ w'.cell? ⟨g, i * 8 + 6, none⟩ = some (.string j2) ∧ w'.cell? ⟨g, i * 8 + 7, none⟩ = some (.slice B0 n0 d0) from fun w' hw =>
              ⟨(World.cell?_of_block hw).trans a0, (World.cell?_of_block hw).trans a1, (World.cell?_of_block hw).trans a2, (World.cell?_of_block hw).trans a3, (World.cell?_of_block hw).trans b0, (World.cell?_of_block hw).trans b1, (World.cell?_of_block hw).trans b2, (World.cell?_of_block hw).trans b3⟩)
            have q2d : wr.drew.heap[g]? = wr.heap[g]? := rfl
            have HG := Lib.hid hgq
            have TA := Lib.hid (ta.below (Below.refl _ _).drew)
            have TB := Lib.hid (tb.below (Below.refl _ _).drew)
            have OWND := Lib.hid (own_below OWN.out (Below.refl _ _).drew)
            clear hgq hr ta tb hpm a0 a1 a2 a3 b0 b1 b2 b3 hwx hp CU0 CR0 hnone hz hM hns hL' hwc1 hwc2 OWN F
            go_wp2_with fail
            go_region_held3 (fun w' => w'.cell? ⟨g, i * 8, none⟩ = some (.int .i64 k0) ∧ w'.cell? ⟨g, i * 8 + 1, none⟩ = some (.int .i64 k1) ∧ w'.cell? ⟨g, i * 8 + 2, none⟩ = some (.string k2) ∧ w'.cell? ⟨g, i * 8 + 3, none⟩ = some (.slice A0 m0 c0) ∧ w'.cell? ⟨g, i * 8 + 4, none⟩ = some (.int .i64 j0) ∧ w'.cell? ⟨g, i * 8 + 5, none⟩ = some (.int .i64 j1) ∧ w'.cell? ⟨g, i * 8 + 6, none⟩ = some (.string j2) ∧ w'.cell? ⟨g, i * 8 + 7, none⟩ = some (.slice B0 n0 d0))
              (first | (with_reducible exact KP.out _ q2d) | (with_reducible exact KP.out _ q5))
              (((with_reducible refine CU.out.mono ?_); rintro e w5 ⟨⟨UA, uc, rfl, hu, he5⟩, hb5⟩; have q5 := (World.heap_of_far hb5 FD.out.env.isMap.spare HG.out).trans q2d))
            have HSP := Lib.hid FD.out.env.isMap.spare
            have A5 := Lib.hid (FD.out.afterU hb5 he5)
            have DD := Lib.hid (Below.refl w5.heap.size w5).drew
            have TA5 := Lib.hid ((TA.out.far hb5 HSP.out).below DD.out)
            have TB5 := Lib.hid ((TB.out.far hb5 HSP.out).below DD.out)
            have CR5 := Lib.hid (CR.out w5.drew (A5.out.2.1.below DD.out) TA5.out TB5.out)
            have OWN5 := Lib.hid (own_below (own_spare OWND.out hb5 HSP.out (by decide)) DD.out)
            have HU5 := Lib.hid (hu.below DD.out)
            have HB5 := Lib.hid (hb5.low DD.out hb5.size)
            have HE5 := Lib.hid (he5.below DD.out)
            have q5d : w5.drew.heap[g]? = wr.heap[g]? := q5
            clear hu he5 hb5 CR TA TB OWND CU A5 DD
            go_wp2_with fail
            go_region_held3 (fun w' => w'.cell? ⟨g, i * 8, none⟩ = some (.int .i64 k0) ∧ w'.cell? ⟨g, i * 8 + 1, none⟩ = some (.int .i64 k1) ∧ w'.cell? ⟨g, i * 8 + 2, none⟩ = some (.string k2) ∧ w'.cell? ⟨g, i * 8 + 3, none⟩ = some (.slice A0 m0 c0) ∧ w'.cell? ⟨g, i * 8 + 4, none⟩ = some (.int .i64 j0) ∧ w'.cell? ⟨g, i * 8 + 5, none⟩ = some (.int .i64 j1) ∧ w'.cell? ⟨g, i * 8 + 6, none⟩ = some (.string j2) ∧ w'.cell? ⟨g, i * 8 + 7, none⟩ = some (.slice B0 n0 d0))
              (first | (with_reducible exact KP.out _ q5d) | (with_reducible exact KP.out _ q6))
              (((with_reducible refine CR5.out.mono ?_); rintro e w6 ⟨⟨UB, uc2, rfl, _, hr6⟩, hb6⟩; have q6 := (World.heap_of_far hb6 (FD.out.afterU HB5.out HE5.out).2.1.spare ((HB5.out.far HSP.out HG.out (by decide)))).trans q5d))
            have SP5 := Lib.hid (FD.out.afterU HB5.out HE5.out).2.1.spare
            have F6 := Lib.hid (FD.out.after HB5.out HE5.out hb6 hr6)
            have OWN6 := Lib.hid (own_spare OWN5.out hb6 SP5.out (by decide))
            have HU6 := Lib.hid (show IRow w6 (.slice UA ns.length uc) ns from own_spare HU5.out hb6 SP5.out (by decide))
            have hzz : (z != z) = false := by simp
            have hzl : z ≠ 0 → ns.length = 0 := fun h => by rw [(HN.out h).2]; rfl
            have HZL := Lib.hid hzl
            clear hzl hr6 hb6 q5 q6 q5d q2d KP HG HSP TA5 TB5 CR5 OWN5 HU5 HB5 HE5 FD SP5
            have B24 : w.heap.size ≤ w.heap.size := Nat.le_refl _
            cases hzb : (z == 0)
            · have hl0 : ((ns.length : Int) != 0) = false := by have := HZL.out (by simpa using hzb); rw [this]; rfl
              have hz0 : z ≠ 0 := by simpa using hzb
              obtain ⟨rfl, rfl⟩ := HN.out hz0
              clear hz0
              go_wp2_with fail
              go_loopw [16] (fun nv wr => ∃ n : Nat, nv = .int .i64 (n : Int) ∧ n ≤ 24 ∧ FS w wr eb mb rb (2000 * i + 2000) L' (.slice (some ⟨g, 0, none⟩) ps.length qc) ps ∧ wr.ownsRow w.heap.size 4 1 (.slice WA 24 wc) 24 (wasL L' 24)) (fun nv _ => 24 - (intOf nv).toNat)
              case atStart => exact ⟨0, rfl, by omega, F6.out, OWN6.out⟩
              case round =>
                clear F6 OWN6 HU6
                obtain ⟨n, rfl, hn24, hf, hown⟩ := hrel
                have F := Lib.hid hf
                have OWN := Lib.hid hown
                obtain ⟨_, _, e9, _, _, _, hwx⟩ := own_open hown
                injection e9 with e91 e92 e93
                subst e91
                subst e93
                obtain ⟨gw, cur, rfl, _, hgw, hcur⟩ := hwx (by omega)
                clear hf hown hwx e92
                by_cases hn : n < 24
                · have hn' : (n : Int) < 24 := by omega
                  have c0 := (cell_of_row wr gw n _ _ _ hgw).trans ((hcur n (by omega)).trans (wasL_get L' hn))
                  have hgl := heap_lt hgw
                  have CB := Lib.hid (ubound_any (F.out.below (Below.refl _ _).drew).env (n := (n : Int)) (by omega) (by omega))
                  obtain ⟨bb, hbb⟩ : ∃ bb, (findB L' (n : Int)).isSome = bb := ⟨_, rfl⟩
                  rw [hbb] at c0 CB
                  have hbn : (bb != bb) = false := by simp
                  have HGW := Lib.hid hgw
                  clear hgw hcur hbb
                  go_wp2_with fail
                  go_region_held3 (fun w' => w'.cell? ⟨gw, n, none⟩ = some (.bool bb)) (first | go_keep | (with_reducible exact c7))
                    (((with_reducible refine CB.out.mono ?_); rintro e w7 ⟨rfl, h7⟩; have c7 := (h7.cell (p := ⟨gw, n, none⟩) hgl).trans c0))
                  have F7 := Lib.hid (F.out.below ((Below.refl _ _).drew.trans h7))
                  have OWN7 := Lib.hid (own_below OWN.out ((Below.refl _ _).drew.trans h7))
                  clear h7 c7 c0
                  go_wp2_with fail
                  go_roundw
                  case rel => exact ⟨n + 1, by go_num, by omega, F7.out, OWN7.out⟩
                  case measure => simp [intOf]; omega
                · have hn' : ¬ (n : Int) < 24 := by omega
                  have F7 := Lib.hid (show FS w wr eb mb rb (2000 * (i + 1)) L' (.slice (some ⟨g, 0, none⟩) ps.length qc) ps from F.out)
                  clear hcur hgw
                  go_wp2_with fail
                  go_loopw [17] (fun kv w8 => kv = .int .i64 0 ∧ w8 = wr) (fun _ _ => 0)
                  case atStart => exact ⟨rfl, rfl⟩
                  case round =>
                    obtain ⟨rfl, rfl⟩ := hrel
                    go_wp2_with fail
                    go_roundw
                    case rel => exact ⟨i + 1, _, by go_num, by omega, F7.out⟩
                    case measure => simp [intOf]; omega
            · have hz0 : z = 0 := by simpa using hzb
              subst hz0
              clear HN HZL
              go_wp2_with fail
              go_loopw [16] (fun nv w8 => nv = .int .i64 0 ∧ w8 = w6) (fun _ _ => 0)
              case atStart => exact ⟨rfl, rfl⟩
              case round =>
                obtain ⟨rfl, rfl⟩ := hrel
                have hnl := HU6.out.lt
                go_wp2_with fail
                go_loopw [17] (fun kv wr => ∃ k : Nat, kv = .int .i64 (k : Int) ∧ k ≤ ns.length ∧ FS w wr eb mb rb (2000 * i + 2000) L' (.slice (some ⟨g, 0, none⟩) ps.length qc) ps ∧ wr.ownsRow w.heap.size 4 1 (.slice WA 24 wc) 24 (wasL L 24) ∧ IRow wr (.slice UA ns.length uc) ns) (fun kv _ => ns.length - (intOf kv).toNat)
                case atStart => exact ⟨0, rfl, Nat.zero_le _, F6.out, OWN6.out, HU6.out⟩
                case round =>
                  clear F6 OWN6 HU6
                  obtain ⟨k, rfl, hk, hf, hown, hu⟩ := hrel
                  have F := Lib.hid hf
                  have OWN := Lib.hid hown
                  have HU := Lib.hid hu
                  obtain ⟨_, _, e9, _, _, _, hwx⟩ := own_open hown
                  injection e9 with e91 e92 e93
                  subst e91
                  subst e93
                  obtain ⟨gw, cur, rfl, _, hgw, hcur⟩ := hwx (by omega)
                  obtain ⟨_, _, e8, huc, _, hux⟩ := hu.open_
                  injection e8 with e81 e82 e83
                  subst e81
                  subst e83
                  clear hf hown hu hwx e92 e82
                  have hn1000 := HF.out F.out.env.ok
                  by_cases hkn : k < ns.length
                  · have hkn' : (k : Int) < (ns.length : Int) := by omega
                    obtain ⟨x, hx⟩ : ∃ x, ns[k]? = some x := ⟨_, List.getElem?_eq_getElem hkn⟩
                    obtain ⟨ga, rfl, hgal, ca⟩ := hux k x hx
                    obtain ⟨hx1, hx2, hx3, hx4⟩ := HK.out F.out.env.ok x (List.mem_of_getElem? hx)
                    obtain ⟨xn, rfl⟩ : ∃ xn : Nat, x = (xn : Int) := ⟨x.toNat, by omega⟩
                    have CB := Lib.hid (ubound_any F.out.env (n := (xn : Int)) hx3 hx4)
                    rw [hx2] at CB
                    have NX := Lib.hid hx1
                    clear hux hx hx1 hx2
                    by_cases hx24 : xn < 24
                    · have hx24' : (xn : Int) < 24 := by omega
                      have c0 := (cell_of_row wr gw xn _ _ _ hgw).trans ((hcur xn (by omega)).trans (wasL_get L hx24))
                      rw [NX.out] at c0
                      simp only [Option.isSome] at c0
                      have hgwl := heap_lt hgw
                      clear hgw hcur
                      go_wp2_with fail
                      refine CB.out.mono ?_
                      rintro e w7 ⟨rfl, h7⟩
                      have F7 := Lib.hid (F.out.below h7)
                      have OWN7 := Lib.hid (own_below OWN.out h7)
                      have HU7 := Lib.hid (HU.out.below h7)
                      clear h7
                      go_wp2_with fail
                      go_roundw
                      case rel => exact ⟨k + 1, by go_num, by omega, F7.out, OWN7.out, HU7.out⟩
                      case measure => simp [intOf]; omega
                    · have hx24' : ¬ (xn : Int) < 24 := by omega
                      clear hgw hcur
                      go_wp2_with fail
                      go_roundw
                      case rel => exact ⟨k + 1, by go_num, by omega, F.out, OWN.out, HU.out⟩
                      case measure => simp [intOf]; omega
                  · have hkn' : ¬ (k : Int) < (ns.length : Int) := by omega
                    have F7 := Lib.hid (show FS w wr eb mb rb (2000 * (i + 1)) L' (.slice (some ⟨g, 0, none⟩) ps.length qc) ps from F.out)
                    clear hcur hgw hux
                    go_wp2_with fail
                    go_roundw
                    case rel => exact ⟨i + 1, L', by go_num, by omega, F7.out⟩
                    case measure => simp [intOf]; omega
      · have hlt' : ¬ (i : Int) < (ps.length : Int) := by omega
        go_wp2_with fail
        go_ret
        exact ⟨rfl, F.out.low⟩
end Go.Proofs.Ytjjkigphfijnbaa
