/- (*Script).says: what a line says. (Printed by tools/gen_says.py.) -/
import Derived.Test.YtipddolkikhojaaDoorPp
import Derived.Test.YtipddolkikhojaaDoorSm
namespace Go.Proofs.YtipddolkikhojaaDoor
open Go.RowKit

/-- What a line says that is no line of the program's. -/
def sayQ (st : SS) (l : List UInt8) : Except Int SS := match behL askW l with
  | some q => if st.sq then .error 34 else .ok { st with query := q, sq := true }
  | none => match wordOf l with
    | none => .error 220
    | some (k, r) => match parseN (ba r) with
      | none => .error 12
      | some v => if st.sl k then .error 34 else .ok { st with lim := setF st.lim k v, sl := setF st.sl k true }
theorem sayL_q {st : SS} {l : List UInt8} (h : ¬ (l = [] ∨ l.head? = some 35)) (hb : behL barW l = none) : sayL st l = sayQ st l := by
  unfold sayL sayQ
  rw [if_neg h, hb]
  rfl
theorem sayQ_ask {st : SS} {l q : List UInt8} (h : behL askW l = some q) : sayQ st l = if st.sq then .error 34 else .ok { st with query := q, sq := true } := by unfold sayQ; rw [h]
theorem sayQ_none {st : SS} {l : List UInt8} (h : behL askW l = none) (hw : ∀ j, j < 4 → behL (wordL j) l = none) : sayQ st l = .error 220 := by
  unfold sayQ wordOf
  rw [h, hw 0 (by omega), hw 1 (by omega), hw 2 (by omega), hw 3 (by omega)]
theorem sayQ_word {st : SS} {l r : List UInt8} {k : Nat} (h : behL askW l = none) (hw : ∀ j, j < k → behL (wordL j) l = none) (hk : k < 4) (hr : behL (wordL k) l = some r) :
    sayQ st l = match parseN (ba r) with
      | none => .error 12
      | some v => if st.sl k then .error 34 else .ok { st with lim := setF st.lim k v, sl := setF st.sl k true } := by
  unfold sayQ
  rw [h]
  have e : wordOf l = some (k, r) := by
    unfold wordOf
    rcases k with _ | _ | _ | _ | k
    · rw [hr]
    · rw [hw 0 (by omega), hr]
    · rw [hw 0 (by omega), hw 1 (by omega), hr]
    · rw [hw 0 (by omega), hw 1 (by omega), hw 2 (by omega), hr]
    · omega
  rw [e]
/-- The script's box while its text is read. -/
def SB (w : World) (sb : Nat) (st : SS) : Prop := w.heap[sb]? = some (.cells #[.string ⟨#[]⟩, .string (ba st.query), .int .i64 (st.lim 0), .int .i64 (st.lim 1), .int .i64 (st.lim 2), .int .i64 (st.lim 3)] 38 (0, 0))
def SaidX (M : List UInt8 → Bool) (st : SS) : Prop := M askW = st.sq ∧ ∀ k, k < 4 → M (wordL k) = st.sl k
/-- What a call leaves alone: all but the script's box and the map. -/
structure Fs (sb mb : Nat) (w w' : World) : Prop where
  size : w.heap.size ≤ w'.heap.size
  keep : ∀ (k : Nat) (o : Obj), w.heap[k]? = some o → k ≠ sb → k ≠ mb → w'.heap[k]? = some o
  low : ∀ B, B ≤ sb → B ≤ mb → B ≤ w.heap.size → Below B w w'
theorem Fs.of {sb mb : Nat} {w w' : World} (h : Below w.heap.size w w') : Fs sb mb w w' := ⟨h.size, fun k _ hk _ _ => (h.block k (heap_lt hk)).trans hk, fun _ _ _ hB => h.mono hB⟩
theorem Fs.trans {sb mb : Nat} {w w1 w2 : World} (h : Fs sb mb w w1) (h' : Fs sb mb w1 w2) : Fs sb mb w w2 := ⟨Nat.le_trans h.size h'.size, fun k o hk h1 h2 => h'.keep k o (h.keep k o hk h1 h2) h1 h2, fun B h1 h2 h3 => (h.low B h1 h2 h3).trans (h'.low B h1 h2 (Nat.le_trans h3 h.size))⟩
theorem Fs.turned {sb mb : Nat} {w w' : World} (h : w.mapTurned w' mb) : Fs sb mb w w' := ⟨by rw [turned_size h]; exact Nat.le_refl _, fun k _ hk _ h2 => (turned_block h k h2).trans hk, fun _ _ h2 _ => Below.turned (Below.refl _ _) h h2⟩
theorem Fs.set (sb mb : Nat) (w : World) (i : Nat) (v : Value) : Fs sb mb w (w.setCell ⟨sb, i, none⟩ v) := ⟨by simp, fun k _ hk h1 _ => (Below.heap_setCell _ _ _ k h1).trans hk, fun _ h1 _ _ => (Below.refl _ _).setCell (p := ⟨sb, i, none⟩) h1 v⟩
def SaysP (sb mb N : Nat) (st : SS) (l : List UInt8) (w : World) (e : Ending) (w' : World) : Prop := ∃ er : Int, e = .returned (.int .i64 er) ∧ Fs sb mb w w' ∧
  ((sayQ st l = .error er ∧ er ≠ 0) ∨ (er = 0 ∧ ∃ st' M', sayQ st l = .ok st' ∧ st'.prog = st.prog ∧ SB w' sb st' ∧ SM w' mb (N + 1) M' ∧ SaidX M' st'))
theorem says_err {sb mb N : Nat} {st : SS} {l : List UInt8} {w w' : World} {er : Int} (h : sayQ st l = .error er) (hn : er ≠ 0) (hf : Fs sb mb w w') : SaysP sb mb N st l w (.returned (.int .i64 er)) w' := ⟨er, rfl, hf, .inl ⟨h, hn⟩⟩
theorem says_ok {sb mb N : Nat} {st st' : SS} {l : List UInt8} {w w' : World} {M' : List UInt8 → Bool} (h : sayQ st l = .ok st') (hp : st'.prog = st.prog) (hf : Fs sb mb w w') (h1 : SB w' sb st') (h2 : SM w' mb (N + 1) M') (h3 : SaidX M' st') : SaysP sb mb N st l w (.returned (.int .i64 0)) w' := ⟨0, rfl, hf, .inr ⟨rfl, st', M', h, hp, h1, h2, h3⟩⟩
theorem said_ask {M : List UInt8 → Bool} {st : SS} (h : SaidX M st) (q : List UInt8) : SaidX (putS M askW) { st with query := q, sq := true } := by
  refine ⟨by simp [putS], fun k hk => ?_⟩
  have hne : wordL k ≠ askW := by
    rcases k with _ | _ | _ | _ | k <;> first | decide | omega
  simp only [putS, if_neg hne]
  exact h.2 k hk
theorem wordL_inj {j k : Nat} (hj : j < 4) (hk : k < 4) (h : wordL j = wordL k) : j = k := by
  rcases j with _ | _ | _ | _ | j <;> rcases k with _ | _ | _ | _ | k <;> first | rfl | omega | exact absurd h (by decide)
theorem said_word {M : List UInt8 → Bool} {st : SS} (h : SaidX M st) {k : Nat} (hk : k < 4) (v : Int) : SaidX (putS M (wordL k)) { st with lim := setF st.lim k v, sl := setF st.sl k true } := by
  have hne : askW ≠ wordL k := by
    rcases k with _ | _ | _ | _ | k <;> first | decide | omega
  refine ⟨by simp only [putS, if_neg hne]; exact h.1, fun j hj => ?_⟩
  by_cases hjk : j = k
  · subst hjk; simp [putS, setF]
  · have h2 : wordL j ≠ wordL k := fun e => hjk (wordL_inj hj hk e)
    simp only [putS, if_neg h2, setF, if_neg hjk]
    exact h.2 j hj
set_option maxRecDepth 100000 in
set_option maxHeartbeats 16000000 in
theorem says_any (sb mb N : Nat) (st : SS) (M : List UInt8 → Bool) (ln : ByteArray) (w : World) (hln : ln.size ≤ 100000000) (hS : SB w sb st) (hM : SM w mb N M) (hN : N < 100000) (hX : SaidX M st) (hne : sb ≠ mb) (hW : WordsX w) (hT : TabX w) (hE : ErrX w) :
    Calls Tryd.prog 33 #[.pointer (some ⟨sb, 0, none⟩), .string ln, .map (some mb)] w fun e w' => SaysP sb mb N st ln.data.toList w e w' := by
  have HS := Lib.hid hS
  have HM := Lib.hid hM
  have HX := Lib.hid hX
  have HW := Lib.hid hW
  have HT := Lib.hid hT
  have HE := Lib.hid hE
  have hsl := heap_lt hS
  have hml := hM.lt
  have ix0 := idx4_0
  have ix1 := idx4_1
  have ix2 := idx4_2
  have ix3 := idx4_3
  have CA := Lib.hid (show Calls Tryd.prog 32 #[.string ln, .string ⟨#[63, 32]⟩] w fun e w' => e = .returned (.tuple #[.string (cutO ln (behL askW ln.data.toList)).1, .bool (cutO ln (behL askW ln.data.toList)).2]) ∧ Below w.heap.size w w' from cutp_any ln ⟨#[63, 32]⟩ w)
  clear hS hM hX hW hT hE
  cases ha : behL askW ln.data.toList with
  | some q =>
    rw [ha] at CA
    have EQ := Lib.hid (sayQ_ask (st := st) ha)
    have CA2 : Hid (Calls Tryd.prog 32 #[.string ln, .string ⟨#[63, 32]⟩] w fun e w' => e = .returned (.tuple #[.string (ba q), .bool true]) ∧ Below w.heap.size w w') := CA
    clear CA ha
    go_enter Tryd.func33, Tryd.ntmps33
    go_wp2_with fail
    refine CA2.out.mono ?_
    rintro e w1 ⟨rfl, hb1⟩
    have B1 := Lib.hid hb1
    have S1 := Lib.hid (show SB w1 sb st from (hb1.block sb hsl).trans HS.out)
    have M1 := Lib.hid (HM.out.keep (hb1.block mb hml))
    have LK := M1.out.look (s := ⟨#[63, 32]⟩) (by decide)
    rw [show M (⟨#[63, 32]⟩ : ByteArray).data.toList = st.sq from HX.out.1] at LK
    clear hb1 CA2
    cases hsq : st.sq with
    | true =>
      rw [hsq] at LK EQ
      go_wp2_with fail
      go_ret
      exact says_err EQ.out (by decide) (Fs.of B1.out)
    | false =>
      rw [hsq] at LK EQ
      obtain ⟨w2, hrun, hsm, ht⟩ := M1.out.put (s := ⟨#[63, 32]⟩) (by omega) (by decide)
      have S2 := Lib.hid (show SB w2 sb st from (turned_block ht sb hne).trans S1.out)
      have fz : w2.frozen? ⟨sb, 1, none⟩ = false := by simp [World.frozen?, show w2.heap[sb]? = _ from S2.out]
      have S3 := Lib.hid (show SB (w2.setCell ⟨sb, 1, none⟩ (.string (ba q))) sb { st with query := q, sq := true } by
        have := blk_set S2.out 1 (.string (ba q))
        simpa [SB] using this)
      have M3 := Lib.hid (hsm.keep (w' := w2.setCell ⟨sb, 1, none⟩ (.string (ba q))) (Below.heap_setCell _ _ _ mb (fun e => hne e.symm)))
      have F3 := Lib.hid ((Fs.of (sb := sb) (mb := mb) B1.out).trans ((Fs.turned ht).trans (Fs.set sb mb w2 1 (.string (ba q)))))
      have hpt : w2.cell? ⟨sb, 1, none⟩ = some (.string (ba st.query)) := cell_of_row w2 sb 1 _ _ _ S2.out
      clear hsm ht
      go_wp2_with fail
      go_ret
      exact says_ok EQ.out rfl F3.out S3.out M3.out (said_ask HX.out q)
  | none =>
    rw [ha] at CA
    have HA := Lib.hid ha
    have CA2 : Hid (Calls Tryd.prog 32 #[.string ln, .string ⟨#[63, 32]⟩] w fun e w' => e = .returned (.tuple #[.string ln, .bool false]) ∧ Below w.heap.size w w') := CA
    clear CA ha
    go_enter Tryd.func33, Tryd.ntmps33
    go_wp2_with fail
    refine CA2.out.mono ?_
    rintro e w1 ⟨rfl, hb1⟩
    have B1 := Lib.hid hb1
    have CPl := Lib.hid (places_any sb 2 w1)
    clear hb1 CA2
    go_wp2_with fail
    refine CPl.out.mono ?_
    rintro e w2 ⟨rfl, hb2⟩
    have B2 := Lib.hid (B1.out.trans (hb2.mono B1.out.size))
    clear hb2 CPl
    go_wp2_with fail
    go_loopw [32] (fun iv wr => ∃ k : Nat, iv = .int .i64 (k : Int) ∧ k ≤ 4 ∧ Hid (∀ j, j < k → behL (wordL j) ln.data.toList = none) ∧ Below w.heap.size w wr) (fun iv _ => 4 - (intOf iv).toNat)
    case atStart => exact ⟨0, rfl, by omega, Lib.hid (fun j h => absurd h (by omega)), B2.out⟩
    case round =>
      obtain ⟨k, rfl, hk, HQ, hbr⟩ := hrel
      have HBr := Lib.hid hbr
      have HWr := Lib.hid (HW.out.below hbr)
      clear hbr
      obtain rfl | rfl | rfl | rfl | rfl : k = 0 ∨ k = 1 ∨ k = 2 ∨ k = 3 ∨ k = 4 := by omega
      -- the word 0
      · have wk := HWr.out.1
        have CK := Lib.hid (show Calls Tryd.prog 32 #[.string ln, .string ⟨#[102, 117, 101, 108, 32]⟩] wr fun e w' => e = .returned (.tuple #[.string (cutO ln (behL (wordL 0) ln.data.toList)).1, .bool (cutO ln (behL (wordL 0) ln.data.toList)).2]) ∧ Below wr.heap.size wr w' from cutp_any ln ⟨#[102, 117, 101, 108, 32]⟩ wr)
        cases hb : behL (wordL 0) ln.data.toList with
        | none =>
          rw [hb] at CK
          have CK2 : Hid (Calls Tryd.prog 32 #[.string ln, .string ⟨#[102, 117, 101, 108, 32]⟩] wr fun e w' => e = .returned (.tuple #[.string ln, .bool false]) ∧ Below wr.heap.size wr w') := CK
          have HQ2 := Lib.hid (show ∀ j, j < 0 + 1 → behL (wordL j) ln.data.toList = none from fun j hj => by
            rcases Nat.lt_or_ge j 0 with h | h
            · exact HQ.out j h
            · obtain rfl : j = 0 := by omega
              exact hb)
          clear CK hb
          go_wp2_with fail
          refine CK2.out.mono ?_
          rintro e w3 ⟨rfl, hb3⟩
          have B3 := Lib.hid (HBr.out.trans (hb3.mono HBr.out.size))
          clear hb3 CK2
          go_wp2_with fail
          go_roundw
          case rel => exact ⟨0 + 1, rfl, by omega, HQ2, B3.out⟩
          case measure => decide
        | some r =>
          rw [hb] at CK
          have CK2 : Hid (Calls Tryd.prog 32 #[.string ln, .string ⟨#[102, 117, 101, 108, 32]⟩] wr fun e w' => e = .returned (.tuple #[.string (ba r), .bool true]) ∧ Below wr.heap.size wr w') := CK
          have EQ := Lib.hid (sayQ_word (st := st) HA.out HQ.out (by omega) hb)
          have hrl : (ba r).size ≤ 100000000 := by
            have e1 := behL_some hb
            have e2 : ln.data.toList.length = ln.size := Array.length_toList
            rw [e1, List.length_append] at e2
            have e3 : (ba r).size = r.length := by show (ba r).data.size = _; simp [ba]
            omega
          clear CK hb
          go_wp2_with fail
          refine CK2.out.mono ?_
          rintro e w3 ⟨rfl, hb3⟩
          have B3 := Lib.hid (HBr.out.trans (hb3.mono HBr.out.size))
          have CN := Lib.hid (pparse_any (ba r) w3 (by omega) (HT.out.below B3.out) (HE.out.below B3.out))
          clear hb3 CK2 wk
          go_wp2_with fail
          refine CN.out.mono ?_
          rintro e w4 ⟨⟨v, er, rfl, hv, hn⟩, hb4⟩
          have B4 := Lib.hid (B3.out.trans (hb4.mono B3.out.size))
          have HWw := Lib.hid (HW.out.below B4.out)
          have S4 := Lib.hid (show SB w4 sb st from (B4.out.block sb hsl).trans HS.out)
          have M4 := Lib.hid (HM.out.keep (B4.out.block mb hml))
          have wk := HWw.out.1
          rcases hn.out with ⟨rfl, hpn⟩ | ⟨rfl, rfl, hpn⟩
          · rw [hpn] at EQ
            have EQ := Lib.hid EQ.out
            have LK := M4.out.look (s := ⟨#[102, 117, 101, 108, 32]⟩) (by decide)
            rw [show M (⟨#[102, 117, 101, 108, 32]⟩ : ByteArray).data.toList = st.sl 0 from HX.out.2 0 (by omega)] at LK
            clear hb4 CN hn hpn
            cases hsk : st.sl 0 with
            | true =>
              rw [hsk] at LK EQ
              go_wp2_with fail
              go_ret
              exact says_err EQ.out (by decide) (Fs.of B4.out)
            | false =>
              rw [hsk] at LK EQ
              obtain ⟨w5, w6, cc, hme, hes, hsm, ht5, ht⟩ := M4.out.entry (s := ⟨#[102, 117, 101, 108, 32]⟩) (by omega) (by decide) ((HX.out.2 0 (by omega)).trans hsk)
              have S6 := Lib.hid (show SB w6 sb st from (turned_block ht sb hne).trans S4.out)
              have fz : w6.frozen? ⟨sb, 2, none⟩ = false := by simp [World.frozen?, show w6.heap[sb]? = _ from S6.out]
              have S7 := Lib.hid (show SB (w6.setCell ⟨sb, 2, none⟩ (.int .i64 v)) sb { st with lim := setF st.lim 0 v, sl := setF st.sl 0 true } by
                have := blk_set S6.out 2 (.int .i64 v)
                simpa [SB, setF] using this)
              have M7 := Lib.hid (hsm.keep (w' := w6.setCell ⟨sb, 2, none⟩ (.int .i64 v)) (Below.heap_setCell _ _ _ mb (fun e => hne e.symm)))
              have F7 := Lib.hid ((Fs.of (sb := sb) (mb := mb) B4.out).trans ((Fs.turned ht).trans (Fs.set sb mb w6 2 (.int .i64 v))))
              have hpt : w6.cell? ⟨sb, 2, none⟩ = some (.int .i64 (st.lim 0)) := cell_of_row w6 sb 2 _ _ _ S6.out
              clear hsm ht ht5
              go_wp2_with fail
              go_ret
              exact says_ok EQ.out rfl F7.out S7.out M7.out (said_word (k := 0) HX.out (by omega) v)
          · rw [hpn] at EQ
            clear hb4 CN hn hpn
            go_wp2_with fail
            go_ret
            exact says_err EQ.out (by decide) (Fs.of B4.out)
      -- the word 1
      · have wk := HWr.out.2.1
        have CK := Lib.hid (show Calls Tryd.prog 32 #[.string ln, .string ⟨#[114, 111, 111, 109, 32]⟩] wr fun e w' => e = .returned (.tuple #[.string (cutO ln (behL (wordL 1) ln.data.toList)).1, .bool (cutO ln (behL (wordL 1) ln.data.toList)).2]) ∧ Below wr.heap.size wr w' from cutp_any ln ⟨#[114, 111, 111, 109, 32]⟩ wr)
        cases hb : behL (wordL 1) ln.data.toList with
        | none =>
          rw [hb] at CK
          have CK2 : Hid (Calls Tryd.prog 32 #[.string ln, .string ⟨#[114, 111, 111, 109, 32]⟩] wr fun e w' => e = .returned (.tuple #[.string ln, .bool false]) ∧ Below wr.heap.size wr w') := CK
          have HQ2 := Lib.hid (show ∀ j, j < 1 + 1 → behL (wordL j) ln.data.toList = none from fun j hj => by
            rcases Nat.lt_or_ge j 1 with h | h
            · exact HQ.out j h
            · obtain rfl : j = 1 := by omega
              exact hb)
          clear CK hb
          go_wp2_with fail
          refine CK2.out.mono ?_
          rintro e w3 ⟨rfl, hb3⟩
          have B3 := Lib.hid (HBr.out.trans (hb3.mono HBr.out.size))
          clear hb3 CK2
          go_wp2_with fail
          go_roundw
          case rel => exact ⟨1 + 1, rfl, by omega, HQ2, B3.out⟩
          case measure => decide
        | some r =>
          rw [hb] at CK
          have CK2 : Hid (Calls Tryd.prog 32 #[.string ln, .string ⟨#[114, 111, 111, 109, 32]⟩] wr fun e w' => e = .returned (.tuple #[.string (ba r), .bool true]) ∧ Below wr.heap.size wr w') := CK
          have EQ := Lib.hid (sayQ_word (st := st) HA.out HQ.out (by omega) hb)
          have hrl : (ba r).size ≤ 100000000 := by
            have e1 := behL_some hb
            have e2 : ln.data.toList.length = ln.size := Array.length_toList
            rw [e1, List.length_append] at e2
            have e3 : (ba r).size = r.length := by show (ba r).data.size = _; simp [ba]
            omega
          clear CK hb
          go_wp2_with fail
          refine CK2.out.mono ?_
          rintro e w3 ⟨rfl, hb3⟩
          have B3 := Lib.hid (HBr.out.trans (hb3.mono HBr.out.size))
          have CN := Lib.hid (pparse_any (ba r) w3 (by omega) (HT.out.below B3.out) (HE.out.below B3.out))
          clear hb3 CK2 wk
          go_wp2_with fail
          refine CN.out.mono ?_
          rintro e w4 ⟨⟨v, er, rfl, hv, hn⟩, hb4⟩
          have B4 := Lib.hid (B3.out.trans (hb4.mono B3.out.size))
          have HWw := Lib.hid (HW.out.below B4.out)
          have S4 := Lib.hid (show SB w4 sb st from (B4.out.block sb hsl).trans HS.out)
          have M4 := Lib.hid (HM.out.keep (B4.out.block mb hml))
          have wk := HWw.out.2.1
          rcases hn.out with ⟨rfl, hpn⟩ | ⟨rfl, rfl, hpn⟩
          · rw [hpn] at EQ
            have EQ := Lib.hid EQ.out
            have LK := M4.out.look (s := ⟨#[114, 111, 111, 109, 32]⟩) (by decide)
            rw [show M (⟨#[114, 111, 111, 109, 32]⟩ : ByteArray).data.toList = st.sl 1 from HX.out.2 1 (by omega)] at LK
            clear hb4 CN hn hpn
            cases hsk : st.sl 1 with
            | true =>
              rw [hsk] at LK EQ
              go_wp2_with fail
              go_ret
              exact says_err EQ.out (by decide) (Fs.of B4.out)
            | false =>
              rw [hsk] at LK EQ
              obtain ⟨w5, w6, cc, hme, hes, hsm, ht5, ht⟩ := M4.out.entry (s := ⟨#[114, 111, 111, 109, 32]⟩) (by omega) (by decide) ((HX.out.2 1 (by omega)).trans hsk)
              have S6 := Lib.hid (show SB w6 sb st from (turned_block ht sb hne).trans S4.out)
              have fz : w6.frozen? ⟨sb, 3, none⟩ = false := by simp [World.frozen?, show w6.heap[sb]? = _ from S6.out]
              have S7 := Lib.hid (show SB (w6.setCell ⟨sb, 3, none⟩ (.int .i64 v)) sb { st with lim := setF st.lim 1 v, sl := setF st.sl 1 true } by
                have := blk_set S6.out 3 (.int .i64 v)
                simpa [SB, setF] using this)
              have M7 := Lib.hid (hsm.keep (w' := w6.setCell ⟨sb, 3, none⟩ (.int .i64 v)) (Below.heap_setCell _ _ _ mb (fun e => hne e.symm)))
              have F7 := Lib.hid ((Fs.of (sb := sb) (mb := mb) B4.out).trans ((Fs.turned ht).trans (Fs.set sb mb w6 3 (.int .i64 v))))
              have hpt : w6.cell? ⟨sb, 3, none⟩ = some (.int .i64 (st.lim 1)) := cell_of_row w6 sb 3 _ _ _ S6.out
              clear hsm ht ht5
              go_wp2_with fail
              go_ret
              exact says_ok EQ.out rfl F7.out S7.out M7.out (said_word (k := 1) HX.out (by omega) v)
          · rw [hpn] at EQ
            clear hb4 CN hn hpn
            go_wp2_with fail
            go_ret
            exact says_err EQ.out (by decide) (Fs.of B4.out)
      -- the word 2
      · have wk := HWr.out.2.2.1
        have CK := Lib.hid (show Calls Tryd.prog 32 #[.string ln, .string ⟨#[115, 116, 97, 99, 107, 32]⟩] wr fun e w' => e = .returned (.tuple #[.string (cutO ln (behL (wordL 2) ln.data.toList)).1, .bool (cutO ln (behL (wordL 2) ln.data.toList)).2]) ∧ Below wr.heap.size wr w' from cutp_any ln ⟨#[115, 116, 97, 99, 107, 32]⟩ wr)
        cases hb : behL (wordL 2) ln.data.toList with
        | none =>
          rw [hb] at CK
          have CK2 : Hid (Calls Tryd.prog 32 #[.string ln, .string ⟨#[115, 116, 97, 99, 107, 32]⟩] wr fun e w' => e = .returned (.tuple #[.string ln, .bool false]) ∧ Below wr.heap.size wr w') := CK
          have HQ2 := Lib.hid (show ∀ j, j < 2 + 1 → behL (wordL j) ln.data.toList = none from fun j hj => by
            rcases Nat.lt_or_ge j 2 with h | h
            · exact HQ.out j h
            · obtain rfl : j = 2 := by omega
              exact hb)
          clear CK hb
          go_wp2_with fail
          refine CK2.out.mono ?_
          rintro e w3 ⟨rfl, hb3⟩
          have B3 := Lib.hid (HBr.out.trans (hb3.mono HBr.out.size))
          clear hb3 CK2
          go_wp2_with fail
          go_roundw
          case rel => exact ⟨2 + 1, rfl, by omega, HQ2, B3.out⟩
          case measure => decide
        | some r =>
          rw [hb] at CK
          have CK2 : Hid (Calls Tryd.prog 32 #[.string ln, .string ⟨#[115, 116, 97, 99, 107, 32]⟩] wr fun e w' => e = .returned (.tuple #[.string (ba r), .bool true]) ∧ Below wr.heap.size wr w') := CK
          have EQ := Lib.hid (sayQ_word (st := st) HA.out HQ.out (by omega) hb)
          have hrl : (ba r).size ≤ 100000000 := by
            have e1 := behL_some hb
            have e2 : ln.data.toList.length = ln.size := Array.length_toList
            rw [e1, List.length_append] at e2
            have e3 : (ba r).size = r.length := by show (ba r).data.size = _; simp [ba]
            omega
          clear CK hb
          go_wp2_with fail
          refine CK2.out.mono ?_
          rintro e w3 ⟨rfl, hb3⟩
          have B3 := Lib.hid (HBr.out.trans (hb3.mono HBr.out.size))
          have CN := Lib.hid (pparse_any (ba r) w3 (by omega) (HT.out.below B3.out) (HE.out.below B3.out))
          clear hb3 CK2 wk
          go_wp2_with fail
          refine CN.out.mono ?_
          rintro e w4 ⟨⟨v, er, rfl, hv, hn⟩, hb4⟩
          have B4 := Lib.hid (B3.out.trans (hb4.mono B3.out.size))
          have HWw := Lib.hid (HW.out.below B4.out)
          have S4 := Lib.hid (show SB w4 sb st from (B4.out.block sb hsl).trans HS.out)
          have M4 := Lib.hid (HM.out.keep (B4.out.block mb hml))
          have wk := HWw.out.2.2.1
          rcases hn.out with ⟨rfl, hpn⟩ | ⟨rfl, rfl, hpn⟩
          · rw [hpn] at EQ
            have EQ := Lib.hid EQ.out
            have LK := M4.out.look (s := ⟨#[115, 116, 97, 99, 107, 32]⟩) (by decide)
            rw [show M (⟨#[115, 116, 97, 99, 107, 32]⟩ : ByteArray).data.toList = st.sl 2 from HX.out.2 2 (by omega)] at LK
            clear hb4 CN hn hpn
            cases hsk : st.sl 2 with
            | true =>
              rw [hsk] at LK EQ
              go_wp2_with fail
              go_ret
              exact says_err EQ.out (by decide) (Fs.of B4.out)
            | false =>
              rw [hsk] at LK EQ
              obtain ⟨w5, w6, cc, hme, hes, hsm, ht5, ht⟩ := M4.out.entry (s := ⟨#[115, 116, 97, 99, 107, 32]⟩) (by omega) (by decide) ((HX.out.2 2 (by omega)).trans hsk)
              have S6 := Lib.hid (show SB w6 sb st from (turned_block ht sb hne).trans S4.out)
              have fz : w6.frozen? ⟨sb, 4, none⟩ = false := by simp [World.frozen?, show w6.heap[sb]? = _ from S6.out]
              have S7 := Lib.hid (show SB (w6.setCell ⟨sb, 4, none⟩ (.int .i64 v)) sb { st with lim := setF st.lim 2 v, sl := setF st.sl 2 true } by
                have := blk_set S6.out 4 (.int .i64 v)
                simpa [SB, setF] using this)
              have M7 := Lib.hid (hsm.keep (w' := w6.setCell ⟨sb, 4, none⟩ (.int .i64 v)) (Below.heap_setCell _ _ _ mb (fun e => hne e.symm)))
              have F7 := Lib.hid ((Fs.of (sb := sb) (mb := mb) B4.out).trans ((Fs.turned ht).trans (Fs.set sb mb w6 4 (.int .i64 v))))
              have hpt : w6.cell? ⟨sb, 4, none⟩ = some (.int .i64 (st.lim 2)) := cell_of_row w6 sb 4 _ _ _ S6.out
              clear hsm ht ht5
              go_wp2_with fail
              go_ret
              exact says_ok EQ.out rfl F7.out S7.out M7.out (said_word (k := 2) HX.out (by omega) v)
          · rw [hpn] at EQ
            clear hb4 CN hn hpn
            go_wp2_with fail
            go_ret
            exact says_err EQ.out (by decide) (Fs.of B4.out)
      -- the word 3
      · have wk := HWr.out.2.2.2
        have CK := Lib.hid (show Calls Tryd.prog 32 #[.string ln, .string ⟨#[97, 110, 115, 119, 101, 114, 115, 32]⟩] wr fun e w' => e = .returned (.tuple #[.string (cutO ln (behL (wordL 3) ln.data.toList)).1, .bool (cutO ln (behL (wordL 3) ln.data.toList)).2]) ∧ Below wr.heap.size wr w' from cutp_any ln ⟨#[97, 110, 115, 119, 101, 114, 115, 32]⟩ wr)
        cases hb : behL (wordL 3) ln.data.toList with
        | none =>
          rw [hb] at CK
          have CK2 : Hid (Calls Tryd.prog 32 #[.string ln, .string ⟨#[97, 110, 115, 119, 101, 114, 115, 32]⟩] wr fun e w' => e = .returned (.tuple #[.string ln, .bool false]) ∧ Below wr.heap.size wr w') := CK
          have HQ2 := Lib.hid (show ∀ j, j < 3 + 1 → behL (wordL j) ln.data.toList = none from fun j hj => by
            rcases Nat.lt_or_ge j 3 with h | h
            · exact HQ.out j h
            · obtain rfl : j = 3 := by omega
              exact hb)
          clear CK hb
          go_wp2_with fail
          refine CK2.out.mono ?_
          rintro e w3 ⟨rfl, hb3⟩
          have B3 := Lib.hid (HBr.out.trans (hb3.mono HBr.out.size))
          clear hb3 CK2
          go_wp2_with fail
          go_roundw
          case rel => exact ⟨3 + 1, rfl, by omega, HQ2, B3.out⟩
          case measure => decide
        | some r =>
          rw [hb] at CK
          have CK2 : Hid (Calls Tryd.prog 32 #[.string ln, .string ⟨#[97, 110, 115, 119, 101, 114, 115, 32]⟩] wr fun e w' => e = .returned (.tuple #[.string (ba r), .bool true]) ∧ Below wr.heap.size wr w') := CK
          have EQ := Lib.hid (sayQ_word (st := st) HA.out HQ.out (by omega) hb)
          have hrl : (ba r).size ≤ 100000000 := by
            have e1 := behL_some hb
            have e2 : ln.data.toList.length = ln.size := Array.length_toList
            rw [e1, List.length_append] at e2
            have e3 : (ba r).size = r.length := by show (ba r).data.size = _; simp [ba]
            omega
          clear CK hb
          go_wp2_with fail
          refine CK2.out.mono ?_
          rintro e w3 ⟨rfl, hb3⟩
          have B3 := Lib.hid (HBr.out.trans (hb3.mono HBr.out.size))
          have CN := Lib.hid (pparse_any (ba r) w3 (by omega) (HT.out.below B3.out) (HE.out.below B3.out))
          clear hb3 CK2 wk
          go_wp2_with fail
          refine CN.out.mono ?_
          rintro e w4 ⟨⟨v, er, rfl, hv, hn⟩, hb4⟩
          have B4 := Lib.hid (B3.out.trans (hb4.mono B3.out.size))
          have HWw := Lib.hid (HW.out.below B4.out)
          have S4 := Lib.hid (show SB w4 sb st from (B4.out.block sb hsl).trans HS.out)
          have M4 := Lib.hid (HM.out.keep (B4.out.block mb hml))
          have wk := HWw.out.2.2.2
          rcases hn.out with ⟨rfl, hpn⟩ | ⟨rfl, rfl, hpn⟩
          · rw [hpn] at EQ
            have EQ := Lib.hid EQ.out
            have LK := M4.out.look (s := ⟨#[97, 110, 115, 119, 101, 114, 115, 32]⟩) (by decide)
            rw [show M (⟨#[97, 110, 115, 119, 101, 114, 115, 32]⟩ : ByteArray).data.toList = st.sl 3 from HX.out.2 3 (by omega)] at LK
            clear hb4 CN hn hpn
            cases hsk : st.sl 3 with
            | true =>
              rw [hsk] at LK EQ
              go_wp2_with fail
              go_ret
              exact says_err EQ.out (by decide) (Fs.of B4.out)
            | false =>
              rw [hsk] at LK EQ
              obtain ⟨w5, w6, cc, hme, hes, hsm, ht5, ht⟩ := M4.out.entry (s := ⟨#[97, 110, 115, 119, 101, 114, 115, 32]⟩) (by omega) (by decide) ((HX.out.2 3 (by omega)).trans hsk)
              have S6 := Lib.hid (show SB w6 sb st from (turned_block ht sb hne).trans S4.out)
              have fz : w6.frozen? ⟨sb, 5, none⟩ = false := by simp [World.frozen?, show w6.heap[sb]? = _ from S6.out]
              have S7 := Lib.hid (show SB (w6.setCell ⟨sb, 5, none⟩ (.int .i64 v)) sb { st with lim := setF st.lim 3 v, sl := setF st.sl 3 true } by
                have := blk_set S6.out 5 (.int .i64 v)
                simpa [SB, setF] using this)
              have M7 := Lib.hid (hsm.keep (w' := w6.setCell ⟨sb, 5, none⟩ (.int .i64 v)) (Below.heap_setCell _ _ _ mb (fun e => hne e.symm)))
              have F7 := Lib.hid ((Fs.of (sb := sb) (mb := mb) B4.out).trans ((Fs.turned ht).trans (Fs.set sb mb w6 5 (.int .i64 v))))
              have hpt : w6.cell? ⟨sb, 5, none⟩ = some (.int .i64 (st.lim 3)) := cell_of_row w6 sb 5 _ _ _ S6.out
              clear hsm ht ht5
              go_wp2_with fail
              go_ret
              exact says_ok EQ.out rfl F7.out S7.out M7.out (said_word (k := 3) HX.out (by omega) v)
          · rw [hpn] at EQ
            clear hb4 CN hn hpn
            go_wp2_with fail
            go_ret
            exact says_err EQ.out (by decide) (Fs.of B4.out)
      · have EQ := Lib.hid (sayQ_none (st := st) HA.out HQ.out)
        go_wp2_with fail
        go_ret
        exact says_err EQ.out (by decide) (Fs.of HBr.out)
end Go.Proofs.YtipddolkikhojaaDoor
