/- The walk of ScriptOrder (begun). -/
import Derived.Test.YtipddolkikhojaaDoorSo1
import Derived.Test.YtipddolkikhojaaDoorCwParses
namespace Go.Proofs.YtipddolkikhojaaDoor
open Go.RowKit
/-- What the law's bound counts. -/
def szN (nm : List ByteArray) (q : ByteArray) : Nat → Nat
  | 0 => min nm.length 1048576 + min q.size 1048576
  | i + 1 => szN nm q i + min (nm.getD i ⟨#[]⟩).size 1048576
theorem szN_mono (nm : List ByteArray) (q : ByteArray) : ∀ i j, i ≤ j → szN nm q i ≤ szN nm q j := fun i j h => by
  induction h with
  | refl => exact Nat.le_refl _
  | step _ ih => exact Nat.le_trans ih (Nat.le_add_right _ _)
theorem szN_small {nm : List ByteArray} {q : ByteArray} (h : szN nm q nm.length ≤ 2048) : nm.length ≤ 2048 ∧ q.size ≤ 2048 ∧ ∀ i, i < nm.length → (nm.getD i ⟨#[]⟩).size ≤ 2048 := by
  have h0 := szN_mono nm q 0 nm.length (Nat.zero_le _)
  have e0 : szN nm q 0 = min nm.length 1048576 + min q.size 1048576 := rfl
  refine ⟨by omega, by omega, fun i hi => ?_⟩
  have h1 := szN_mono nm q (i + 1) nm.length hi
  have e1 : szN nm q (i + 1) = szN nm q i + min (nm.getD i ⟨#[]⟩).size 1048576 := rfl
  omega
theorem orderA_text {nm : List ByteArray} {t xt q : ByteArray} {v : Int} (ht : t.data.toList = joinL ((nm.map fun x => x.data.toList).map fun l => barW ++ l)) (hx : xt.data.toList = Lib.itoa v) :
    (t ++ (⟨#[102, 117, 101, 108, 32]⟩ ++ xt ++ ⟨#[10]⟩) ++ (⟨#[63, 32]⟩ ++ q ++ ⟨#[10]⟩) : ByteArray).data.toList = joinL (orderA (nm.map fun x => x.data.toList) q.data.toList v) := by
  unfold orderA
  rw [joinL_app, joinL_cons, joinL_cons, ← ht]
  simp only [cat2, hx]
  simp [wordL, askW, joinL]
theorem orderB_text {nm : List ByteArray} {t xt q : ByteArray} {v : Int} (ht : t.data.toList = joinL ((nm.map fun x => x.data.toList).map fun l => barW ++ l)) (hx : xt.data.toList = Lib.itoa v) :
    (⟨#[63, 32]⟩ ++ q ++ ⟨#[10]⟩ ++ ⟨#[97, 110, 115, 119, 101, 114, 115, 32, 49, 48, 10]⟩ ++ (⟨#[102, 117, 101, 108, 32]⟩ ++ xt ++ ⟨#[10]⟩) ++ t : ByteArray).data.toList = joinL (orderB (nm.map fun x => x.data.toList) q.data.toList v) := by
  unfold orderB
  rw [joinL_cons, joinL_cons, joinL_cons, joinL_app, ← ht]
  simp only [cat2, hx]
  simp [wordL, askW, joinL, show Lib.itoa 10 = [49, 48] from by decide +kernel]
/-- What Parse hands back of a script that is one. -/
def OrdP (a b c d : Int) (pg q : ByteArray) (w : World) (e : Ending) (w' : World) : Prop := e = .returned (.tuple #[.agg #[.string pg, .string q, .int .i64 a, .int .i64 b, .int .i64 c, .int .i64 d], .int .i64 0, .int .i64 0]) ∧ Below w.heap.size w w'
theorem ord_ret {tx pl ql : List UInt8} {a b c d : Int} {w : World} {e : Ending} {w' : World} (hs : ∃ st, scriptN tx = .ok st ∧ st.prog = pl ∧ st.query = ql ∧ st.lim 0 = a ∧ st.lim 1 = b ∧ st.lim 2 = c ∧ st.lim 3 = d) (h : ParseSP tx w e w') : OrdP a b c d (ba pl) (ba ql) w e w' := by
  obtain ⟨st, h1, h2, h3, h4, h5, h6, h7⟩ := hs
  obtain ⟨⟨pg, q, a', b', c', d', n, er, rfl, hh⟩, hb⟩ := h
  rcases hh with ⟨e1, _⟩ | ⟨st', e1, rfl, rfl, rfl, rfl, rfl, rfl, rfl, rfl⟩
  · rw [h1] at e1; cases e1
  · rw [h1] at e1
    injection e1 with e1
    subst e1 h2 h3 h4 h5 h6 h7
    exact ⟨rfl, hb⟩
set_option maxRecDepth 100000 in
set_option maxHeartbeats 8000000 in
theorem scriptorder_any (nm : List ByteArray) (A : Option Addr) (cc : Nat) (q : ByteArray) (f : Int) (w : World) (hnm : NmIn w w.heap.size nm (.slice A nm.length cc)) (hnl : (nm.length : Int) ≤ 9223372036854775807) (hf : 0 ≤ f ∧ f ≤ 65535) (mx : Int) (hm : w.cell? ⟨2, 0, none⟩ = some (.int .i64 mx)) (hW : WordsX w) (hT : TabX w) (hE : ErrX w) :
    Calls Tryd.prog 4 #[.slice A nm.length cc, .string q, .int .u16 f] w fun e w' => e = .returned (.bool true) ∧ Below w.heap.size w w' := by
  obtain ⟨A', c', e0, hx⟩ := hnm
  obtain ⟨rfl, rfl⟩ : A = A' ∧ cc = c' := by injection e0 with h1 h2 h3; exact ⟨h1, h3⟩
  have HX := Lib.hid hx
  have HW := Lib.hid hW
  have HT := Lib.hid hT
  have HE := Lib.hid hE
  have HM := Lib.hid hm
  clear hx hW hT hE hm e0
  go_enter Tryd.func4, Tryd.ntmps4
  go_wp2_with fail
  obtain ⟨z0, hz0⟩ : ∃ z : Int, (min (nm.length : Int) 1048576 + min (q.size : Int) 1048576) = z := ⟨_, rfl⟩
  have hz1 : 0 ≤ z0 ∧ z0 ≤ 4194304 := by omega
  have HZ0 := Lib.hid (show z0 = (szN nm q 0 : Int) by unfold szN; omega)
  rw [hz0]
  clear hz0
  go_loopw [7, 8] (fun nv iv wr => ∃ (i : Nat) (z : Int), nv = .int .i64 z ∧ iv = .int .i64 (i : Int) ∧ i ≤ nm.length ∧ Hid (z = (szN nm q i : Int)) ∧ 0 ≤ z ∧ z ≤ 4194304 ∧ w = wr) (fun _ iv _ => nm.length - (intOf iv).toNat)
  case atStart => exact ⟨0, z0, rfl, rfl, Nat.zero_le _, HZ0, hz1.1, hz1.2, rfl⟩
  case round =>
    obtain ⟨i, z, rfl, rfl, hi, HZ, h0, h1, rfl⟩ := hrel
    by_cases hbig : z ≤ 2048
    · by_cases hil : i < nm.length
      · have hil' : (i : Int) < (nm.length : Int) := by omega
        obtain ⟨g, o, rfl, _, hc⟩ := HX.out (by omega)
        have hci := hc i hil
        obtain ⟨x, hxx⟩ : ∃ x, nm[i] = x := ⟨_, rfl⟩
        rw [hxx] at hci
        have HZ1 := Lib.hid (show z + min (x.size : Int) 1048576 = (szN nm q (i + 1) : Int) by
          unfold szN
          rw [List.getD_eq_getElem?_getD, List.getElem?_eq_getElem hil, hxx, HZ.out]
          show _ = ((_ + min x.size 1048576 : Nat) : Int)
          omega)
        clear hc hxx
        go_wp2_with fail
        go_roundw
        case rel => exact ⟨i + 1, _, rfl, by go_num, hil, HZ1, by omega, by omega, trivial⟩
        case measure => simp [intOf]; omega
      · obtain rfl : nm.length = i := by omega
        have HB := Lib.hid (szN_small (nm := nm) (q := q) (by have := HZ.out; omega))
        have CF := Lib.hid (lfeeds_any q w (by have := HB.out.2.1; omega))
        have hbg : ¬ (2048 < z) := by omega
        clear hbig
        cases hfd : decide (0 < feedsF q q.size) with
        | true =>
          rw [hfd] at CF
          clear hfd
          go_wp2_with fail
          refine CF.out.mono ?_
          rintro e w1 ⟨rfl, hb1⟩
          have B1 := Lib.hid hb1
          clear hb1 CF
          go_wp2_with fail
          go_ret
          exact ⟨rfl, B1.out⟩
        | false =>
          rw [hfd] at CF
          have HNQ := Lib.hid (show ¬ (10 ∈ q.data.toList) from fun h => by rw [decide_eq_true ((feeds_all q).2 h)] at hfd; cases hfd)
          clear hfd
          go_wp2_with fail
          refine CF.out.mono ?_
          rintro e w1 ⟨rfl, hb1⟩
          have B1 := Lib.hid hb1
          clear hb1 CF
          go_wp2_with fail
          go_loopw [6, 9, 10] (fun rv tv iv wr => rv = .bool false ∧ ∃ (i : Nat) (t : ByteArray), tv = .string t ∧ iv = .int .i64 (i : Int) ∧ i ≤ nm.length ∧ Hid (t.data.toList = joinL (((nm.take i).map fun x => x.data.toList).map fun l => barW ++ l)) ∧ Hid (∀ x ∈ nm.take i, ¬ (10 ∈ x.data.toList)) ∧ t.size ≤ szN nm q i + 3 * i ∧ Below w.heap.size w wr) (fun _ _ iv _ => nm.length - (intOf iv).toNat)
          case atStart => exact ⟨rfl, 0, ⟨#[]⟩, rfl, rfl, Nat.zero_le _, Lib.hid (by rw [List.take_zero]; rfl), Lib.hid (fun x hx => by rw [List.take_zero] at hx; cases hx), Nat.zero_le _, B1.out⟩
          case round =>
            obtain ⟨rfl, i, t, rfl, rfl, hi, HTT, HNN, hts, hbr⟩ := hrel
            have HBr := Lib.hid hbr
            have hlen := HB.out.1
            by_cases hil : i < nm.length
            · have hil' : (i : Int) < (nm.length : Int) := by omega
              obtain ⟨g, o, rfl, hg, hc⟩ := HX.out (by omega)
              obtain ⟨x, hxx⟩ : ∃ x, nm[i] = x := ⟨_, rfl⟩
              have hci : wr.cell? ⟨g, o + i, none⟩ = some (.string x) := by
                rw [← hxx]
                exact (hbr.cell (p := ⟨g, o + i, none⟩) hg).trans (hc i hil)
              have hxs : x.size ≤ 2048 := by
                have h := HB.out.2.2 i hil
                rwa [List.getD_eq_getElem?_getD, List.getElem?_eq_getElem hil, hxx] at h
              have htk : nm.take (i + 1) = nm.take i ++ [x] := by rw [List.take_succ_eq_append_getElem hil, hxx]
              have HTK := Lib.hid htk
              have hts' : t.size ≤ 100000000 := by
                have h1 := szN_mono nm q i nm.length hi
                have h2 := HZ.out
                omega
              have HG := Lib.hid (show nm.getD i ⟨#[]⟩ = x by rw [List.getD_eq_getElem?_getD, List.getElem?_eq_getElem hil, hxx]; rfl)
              have CX := Lib.hid (lfeeds_any x wr (by omega))
              have KC := Lib.hid (fun (W : World) (h : Below wr.heap.size wr W) => (h.cell (p := ⟨g, o + i, none⟩) (by have := hbr.size; show g < _; omega)).trans hci)
              clear hc hxx hg hbr htk
              cases hfx : decide (0 < feedsF x x.size) with
              | true =>
                rw [hfx] at CX
                clear hfx
                go_wp2_with fail
                refine CX.out.mono ?_
                rintro e w2 ⟨rfl, hb2⟩
                have B2 := Lib.hid (HBr.out.trans (hb2.mono HBr.out.size))
                clear hb2 CX
                go_wp2_with fail
                go_ret
                exact ⟨rfl, B2.out⟩
              | false =>
                rw [hfx] at CX
                have HNX := Lib.hid (show ¬ (10 ∈ x.data.toList) from fun h => by rw [decide_eq_true ((feeds_all x).2 h)] at hfx; cases hfx)
                clear hfx
                go_wp2_with fail
                refine CX.out.mono ?_
                rintro e w2 ⟨rfl, hb2⟩
                have B2 := Lib.hid (HBr.out.trans (hb2.mono HBr.out.size))
                have hc2 := KC.out w2 hb2
                have E := Lib.hid (show (t ++ ⟨#[124, 32]⟩ ++ x ++ ⟨#[10]⟩ : ByteArray).data.toList = joinL (((nm.take (i + 1)).map fun x => x.data.toList).map fun l => barW ++ l) by
                  rw [HTK.out, List.map_append]
                  show _ = joinL ((_ ++ [x.data.toList]).map _)
                  rw [joinB_snoc, cat2, cat2, cat2, HTT.out]
                  simp [barW])
                have EN := Lib.hid (show ∀ y ∈ nm.take (i + 1), ¬ (10 ∈ y.data.toList) from fun y hy => by
                  rw [HTK.out, List.mem_append, List.mem_singleton] at hy
                  rcases hy with hy | rfl
                  · exact HNN.out y hy
                  · exact HNX.out)
                have hsz : (t ++ ⟨#[124, 32]⟩ ++ x ++ ⟨#[10]⟩ : ByteArray).size ≤ szN nm q (i + 1) + 3 * (i + 1) := by
                  have e3 : szN nm q (i + 1) = szN nm q i + min (nm.getD i ⟨#[]⟩).size 1048576 := rfl
                  rw [HG.out] at e3
                  simp only [ByteArray.size_append]
                  have e1 : (⟨#[124, 32]⟩ : ByteArray).size = 2 := rfl
                  have e2 : (⟨#[10]⟩ : ByteArray).size = 1 := rfl
                  omega
                have HSZ := Lib.hid hsz
                have hcat1 : ¬ (9223372036854775807 < t.size + 2) := by omega
                have hcat2 : ¬ (9223372036854775807 < t.size + 2 + x.size) := by omega
                have hcat3 : ¬ (9223372036854775807 < t.size + 2 + x.size + 1) := by omega
                clear hb2 CX hsz
                go_wp2_with fail
                go_roundw
                case rel => exact ⟨rfl, i + 1, _, rfl, by go_num, hil, E, EN, HSZ.out, B2.out⟩
                case measure => simp [intOf]; omega
            · obtain rfl : nm.length = i := by omega
              have HT2 := Lib.hid (show t.data.toList = joinL ((nm.map fun x => x.data.toList).map fun l => barW ++ l) by have := HTT.out; rwa [List.take_length] at this)
              have HN2 := Lib.hid (show ∀ x ∈ nm, ¬ (10 ∈ x.data.toList) by have := HNN.out; rwa [List.take_length] at this)
              have hts2 : t.size ≤ 8192 := by
                have h2 := HZ.out
                omega
              have CP := Lib.hid (rprint_any (1 + f) wr (by omega) (by omega))
              have hil' : ¬ ((nm.length : Int) < (nm.length : Int)) := by omega
              clear hts hbr hil hi HTT HNN
              go_wp2_with fail
              refine CP.out.mono ?_
              rintro e w2 ⟨⟨xt, rfl, hxt⟩, rfl⟩
              have hxl : xt.size ≤ 21 := by
                have h1 := Lib.itoa_length_le (1 + f) (by omega) (by omega)
                rw [← hxt] at h1
                exact h1
              have hql : q.size ≤ 2048 := HB.out.2.1
              have HXT := Lib.hid hxt
              have hcat1 : ¬ (9223372036854775807 < 5 + xt.size) := by omega
              have hcat2 : ¬ (9223372036854775807 < 5 + xt.size + 1) := by omega
              have hcat3 : ¬ (9223372036854775807 < 2 + q.size) := by omega
              have hcat4 : ¬ (9223372036854775807 < 2 + q.size + 1) := by omega
              have hcat5 : ¬ (9223372036854775807 < t.size + (5 + xt.size + 1)) := by omega
              have hcat6 : ¬ (9223372036854775807 < t.size + (5 + xt.size + 1) + (2 + q.size + 1)) := by omega
              have hcat7 : ¬ (9223372036854775807 < 2 + q.size + 1 + 11) := by omega
              have hcat8 : ¬ (9223372036854775807 < 2 + q.size + 1 + 11 + (5 + xt.size + 1)) := by omega
              have hcat9 : ¬ (9223372036854775807 < 2 + q.size + 1 + 11 + (5 + xt.size + 1) + t.size) := by omega
              have hps : ∀ p ∈ nm.map fun x => x.data.toList, ∀ c ∈ p, c ≠ 10 := fun p hp => by
                obtain ⟨x, hx, rfl⟩ := List.mem_map.1 hp
                exact fun c hc e => HN2.out x hx (e ▸ hc)
              have hqs : ∀ c ∈ q.data.toList, c ≠ 10 := fun c hc e => HNQ.out (e ▸ hc)
              have OS := Lib.hid (order_same (ps := nm.map fun x => x.data.toList) (q := q.data.toList) (v := 1 + f) hps hqs (by omega) (by omega))
              obtain ⟨pg, hpg⟩ : ∃ pg, ba (joinL (nm.map fun x => x.data.toList)) = pg := ⟨_, rfl⟩
              have hbq : ba q.data.toList = q := bytes_same (by simp [ba])
              have hmw := Lib.lt_of_cell HM.out
              obtain ⟨ta, hta⟩ : ∃ ta, t ++ (⟨#[102, 117, 101, 108, 32]⟩ ++ xt ++ ⟨#[10]⟩) ++ (⟨#[63, 32]⟩ ++ q ++ ⟨#[10]⟩) = ta := ⟨_, rfl⟩
              obtain ⟨tb, htb⟩ : ∃ tb, ⟨#[63, 32]⟩ ++ q ++ ⟨#[10]⟩ ++ ⟨#[97, 110, 115, 119, 101, 114, 115, 32, 49, 48, 10]⟩ ++ (⟨#[102, 117, 101, 108, 32]⟩ ++ xt ++ ⟨#[10]⟩) ++ t = tb := ⟨_, rfl⟩
              have hsa : ta.size ≤ 50000 := by
                rw [← hta]
                simp only [ByteArray.size_append]
                have z1 : (⟨#[102, 117, 101, 108, 32]⟩ : ByteArray).size = 5 := rfl
                have z2 : (⟨#[10]⟩ : ByteArray).size = 1 := rfl
                have z3 : (⟨#[63, 32]⟩ : ByteArray).size = 2 := rfl
                omega
              have hsb : tb.size ≤ 50000 := by
                rw [← htb]
                simp only [ByteArray.size_append]
                have z1 : (⟨#[102, 117, 101, 108, 32]⟩ : ByteArray).size = 5 := rfl
                have z2 : (⟨#[10]⟩ : ByteArray).size = 1 := rfl
                have z3 : (⟨#[63, 32]⟩ : ByteArray).size = 2 := rfl
                have z4 : (⟨#[97, 110, 115, 119, 101, 114, 115, 32, 49, 48, 10]⟩ : ByteArray).size = 11 := rfl
                omega
              have hA : ∃ st, scriptN ta.data.toList = .ok st ∧ st.prog = joinL (nm.map fun x => x.data.toList) ∧ st.query = q.data.toList ∧ st.lim 0 = 1 + f ∧ st.lim 1 = 500 ∧ st.lim 2 = 100 ∧ st.lim 3 = 10 := by
                obtain ⟨st, st', e1, e2, p1, p2, q1, q2, a1, a2, a3, a4, b1, b2, b3, b4⟩ := OS.out
                exact ⟨st, by rw [← hta, orderA_text HT2.out hxt]; exact e1, p1, q1, a1, a2, a3, a4⟩
              have hB : ∃ st, scriptN tb.data.toList = .ok st ∧ st.prog = joinL (nm.map fun x => x.data.toList) ∧ st.query = q.data.toList ∧ st.lim 0 = 1 + f ∧ st.lim 1 = 500 ∧ st.lim 2 = 100 ∧ st.lim 3 = 10 := by
                obtain ⟨st, st', e1, e2, p1, p2, q1, q2, a1, a2, a3, a4, b1, b2, b3, b4⟩ := OS.out
                exact ⟨st', by rw [← htb, orderB_text HT2.out hxt]; exact e2, p2, q2, b1, b2, b3, b4⟩
              have CA := Lib.hid (fun (W : World) (h : Below w.heap.size w W) => (sparse_any ta W hsa (HW.out.below h) mx ((h.cell (p := ⟨2, 0, none⟩) hmw).trans HM.out) (HT.out.below h) (HE.out.below h)).mono fun e w' hh => ord_ret hA hh)
              have CB := Lib.hid (fun (W : World) (h : Below w.heap.size w W) => (sparse_any tb W hsb (HW.out.below h) mx ((h.cell (p := ⟨2, 0, none⟩) hmw).trans HM.out) (HT.out.below h) (HE.out.below h)).mono fun e w' hh => ord_ret hB hh)
              have CC := Lib.hid (fun (W : World) => (rsparse_any ta W hsa).mono fun e w' hh => ord_ret hA hh)
              rw [hpg, hbq] at CA CB CC
              have TA := Lib.hid hta
              have TB := Lib.hid htb
              clear hA hB hta htb hbq hpg hps hqs hsa hsb
              clear hxt CP
              go_wp2_with fail
              rw [TA.out]
              refine (CA.out _ HBr.out).mono ?_
              rintro e w3 ⟨rfl, hb3⟩
              have B3 := Lib.hid (HBr.out.trans (hb3.mono HBr.out.size))
              have BZ3 := Lib.hid (belA B3.out (Obj.cells #[.string pg, .string q, .int .i64 (1 + f), .int .i64 500, .int .i64 100, .int .i64 10] 38))
              have Z3 := Lib.hid (heap_alloc_new w3 (Obj.cells #[.string pg, .string q, .int .i64 (1 + f), .int .i64 500, .int .i64 100, .int .i64 10] 38))
              clear hb3
              go_wp2_with fail
              rw [TB.out]
              refine (CB.out _ BZ3.out).mono ?_
              rintro e w4 ⟨rfl, hb4⟩
              have B4 := Lib.hid (BZ3.out.trans (hb4.mono BZ3.out.size))
              have Y4 := Lib.hid ((hb4.block _ (heap_lt Z3.out)).trans Z3.out)
              have BZ4 := Lib.hid (belA B4.out (Obj.cells #[.string pg, .string q, .int .i64 (1 + f), .int .i64 500, .int .i64 100, .int .i64 10] 38))
              have Z4 := Lib.hid (heap_alloc_new w4 (Obj.cells #[.string pg, .string q, .int .i64 (1 + f), .int .i64 500, .int .i64 100, .int .i64 10] 38))
              have YZ4 := Lib.hid ((Below.heap_alloc w4 (Obj.cells #[.string pg, .string q, .int .i64 (1 + f), .int .i64 500, .int .i64 100, .int .i64 10] 38) _ (heap_lt Y4.out)).trans Y4.out)
              clear hb4
              go_wp2_with fail
              rw [TA.out]
              refine (CC.out _).mono ?_
              rintro e w5 ⟨rfl, hb5⟩
              have B5 := Lib.hid (BZ4.out.trans (hb5.mono BZ4.out.size))
              have Y5 := Lib.hid ((hb5.block _ (heap_lt YZ4.out)).trans YZ4.out)
              have X5 := Lib.hid ((hb5.block _ (heap_lt Z4.out)).trans Z4.out)
              have BZ5 := Lib.hid (belA B5.out (Obj.cells #[.string pg, .string q, .int .i64 (1 + f), .int .i64 500, .int .i64 100, .int .i64 10] TRS))
              have V1 := Lib.hid ((Below.heap_alloc w5 (Obj.cells #[.string pg, .string q, .int .i64 (1 + f), .int .i64 500, .int .i64 100, .int .i64 10] TRS) _ (heap_lt Y5.out)).trans Y5.out)
              have V2 := Lib.hid ((Below.heap_alloc w5 (Obj.cells #[.string pg, .string q, .int .i64 (1 + f), .int .i64 500, .int .i64 100, .int .i64 10] TRS) _ (heap_lt X5.out)).trans X5.out)
              have V3 := Lib.hid (heap_alloc_new w5 (Obj.cells #[.string pg, .string q, .int .i64 (1 + f), .int .i64 500, .int .i64 100, .int .i64 10] TRS))
              have CT := Lib.hid (fun (W : World) => theirs_any pg q (1 + f) 500 100 10 W)
              have hpp : (pg.toList == pg.toList) = true := beq_self_eq_true _
              have hqq : (q.toList == q.toList) = true := beq_self_eq_true _
              have HWW := Lib.hid (show (1 + f == IntKind.i64.wrap (1 + IntKind.i64.wrap f)) = true by
                rw [Go.IntWalk.i64_in f ⟨by omega, by omega⟩, Go.IntWalk.i64_in (1 + f) ⟨by omega, by omega⟩]
                exact beq_self_eq_true _)
              clear hb5
              go_wp2_with fail
              generalize w5.alloc (Obj.cells #[.string pg, .string q, .int .i64 (1 + f), .int .i64 500, .int .i64 100, .int .i64 10] TRS) = X at *
              have KP := Lib.hid (fun (W : World) (h : Below X.heap.size X W) => And.intro (box6 ((h.block _ (heap_lt V1.out)).trans V1.out)) (And.intro (box6 ((h.block _ (heap_lt V2.out)).trans V2.out)) (box6 ((h.block _ (heap_lt V3.out)).trans V3.out))))
              have b0 := (Below.refl X.heap.size X).drew
              obtain ⟨⟨y0, y1, y2, y3, y4, y5⟩, ⟨z0, z1, z2, z3, z4, z5⟩, x0, x1, x2, x3, x4, x5⟩ := KP.out X (Below.refl _ _)
              go_region_held3 (fun W => (W.cell? ⟨w3.heap.size, 0, none⟩ = some (.string pg) ∧ W.cell? ⟨w3.heap.size, 1, none⟩ = some (.string q) ∧ W.cell? ⟨w3.heap.size, 2, none⟩ = some (.int .i64 (1 + f)) ∧ W.cell? ⟨w3.heap.size, 3, none⟩ = some (.int .i64 500) ∧ W.cell? ⟨w3.heap.size, 4, none⟩ = some (.int .i64 100) ∧ W.cell? ⟨w3.heap.size, 5, none⟩ = some (.int .i64 10)) ∧ (W.cell? ⟨w4.heap.size, 0, none⟩ = some (.string pg) ∧ W.cell? ⟨w4.heap.size, 1, none⟩ = some (.string q) ∧ W.cell? ⟨w4.heap.size, 2, none⟩ = some (.int .i64 (1 + f)) ∧ W.cell? ⟨w4.heap.size, 3, none⟩ = some (.int .i64 500) ∧ W.cell? ⟨w4.heap.size, 4, none⟩ = some (.int .i64 100) ∧ W.cell? ⟨w4.heap.size, 5, none⟩ = some (.int .i64 10)) ∧ W.cell? ⟨w5.heap.size, 0, none⟩ = some (.string pg) ∧ W.cell? ⟨w5.heap.size, 1, none⟩ = some (.string q) ∧ W.cell? ⟨w5.heap.size, 2, none⟩ = some (.int .i64 (1 + f)) ∧ W.cell? ⟨w5.heap.size, 3, none⟩ = some (.int .i64 500) ∧ W.cell? ⟨w5.heap.size, 4, none⟩ = some (.int .i64 100) ∧ W.cell? ⟨w5.heap.size, 5, none⟩ = some (.int .i64 10))
                (first | (with_reducible exact KP.out _ b0) | (with_reducible exact KP.out _ b1))
                ((first
                  | ((with_reducible refine (CT.out _).mono ?_); rintro e w6 ⟨rfl, k6⟩; have b1 := b0.trans (k6.mono b0.size); clear k6)))
              all_goals
                go_wp2_with fail
                go_ret
                exact ⟨congrArg (fun b => Ending.returned (.bool b)) HWW.out, BZ5.out.trans (b1.mono BZ5.out.size)⟩
    · have hbig' : ¬ (z ≤ 2048) := hbig
      have hbig2 : 2048 < z := by omega
      by_cases hil : (i : Int) < (nm.length : Int)
      all_goals
        go_wp2_with fail
        go_ret
        exact ⟨rfl, Below.refl _ _⟩
end Go.Proofs.YtipddolkikhojaaDoor
