/- The walk through code.Decode. -/
import Derived.Test.YtlgeepjlnjlgdaaDoorEV
import Derived.Test.YtlgeepjlnjlgdaaDoorEW
import Derived.Test.YtlgeepjlnjlgdaaDoorEN
namespace Go.Proofs.YtlgeepjlnjlgdaaDoor
open Go.RowKit

theorem Kd.tl {ab rb B : Nat} {lb nb fb i : Nat} {lv : Value} {right : Bool} {w w' : World} (h : Kd ab rb B w w') (hd : Ds w lb ab rb nb fb lv i right) {B0 : Nat} {S P : Nat → Prop} {v : Value} {l : List T} {qs : List Q6} (ht : TL w B0 S P v l qs) : TL w' B0 S P v l qs :=
  ⟨ht.len, own_keepT ht.own (h.boxes hd), fun i h1 h2 => h.tp hd (ht.tp i h1 h2), fun b hP => ⟨(ht.lo b hP).1, Nat.lt_of_lt_of_le (ht.lo b hP).2 h.low.size⟩, ht.off, ht.NB⟩
/-- What 'callable' has said. -/
def SaidC (l : List Ins) (i : Nat) (right : Bool) (t : T) (i' : Nat) (r' : Bool) : Prop :=
  (r' = true ∧ right = true ∧ pdT l 1000 i = some (t, i') ∧ t.callC) ∨ (r' = false ∧ (right = true → ∀ t' j, pdT l 1000 i = some (t', j) → ¬ t'.callC))
theorem said_of {l : List Ins} {i i' : Nat} {right r' : Bool} {t : T} (h : (right = false → r' = false) ∧ (right = true → match pdT l 1000 i with | some (t', j) => (t'.callC → t = t' ∧ i' = j ∧ r' = true) ∧ (¬ t'.callC → r' = false) | none => r' = false)) : SaidC l i right t i' r' := by
  cases right with
  | false =>
    right
    exact ⟨h.1 rfl, fun h => by cases h⟩
  | true =>
    have h2 := h.2 rfl
    cases hp : pdT l 1000 i with
    | none =>
      rw [hp] at h2
      right
      exact ⟨h2, fun _ t' j h3 => by rw [hp] at h3; cases h3⟩
    | some p =>
      obtain ⟨t', j⟩ := p
      rw [hp] at h2
      by_cases hc : t'.callC
      · obtain ⟨rfl, rfl, h3⟩ := h2.1 hc
        left
        exact ⟨h3, rfl, hp, hc⟩
      · right
        exact ⟨h2.2 hc, fun _ t2 j2 h3 => by rw [hp] at h3; injection h3 with h3; injection h3 with h3 _; rw [← h3]; exact hc⟩
/-- What is known of a decoder amid its goals: j: behind the head. -/
def GK (l : List Ins) (h : T) (j : Nat) (acc : List T) (i : Nat) (right : Bool) : Prop :=
  (right = true → pdT l 1000 1 = some (h, j) ∧ h.semi ∧ h.callC ∧ h.nodes ≤ l.length ∧ (∀ g ∈ acc, g.semi ∧ g.callC) ∧ sumL acc ≤ i ∧ acc.length ≤ i ∧ ∃ f, l.length ≤ i + f ∧ goalsR (pdT l 1000) l l.length [] j = goalsR (pdT l 1000) l f acc i) ∧ (right = false → decR (rdT l 1000) l = none)
/-- What is left to be done. -/
def gauge (ab rb n : Nat) (w : World) : Nat := match w.cell? ⟨rb, 0, none⟩, w.cell? ⟨ab, 0, none⟩ with
  | some (.bool true), some (.int .i64 i) => n + 1 - i.toNat
  | _, _ => 0
theorem gauge_on {ab rb lb nb fb n i : Nat} {lv : Value} {w : World} (h : Ds w lb ab rb nb fb lv i true) : gauge ab rb n w = n + 1 - i := by
  unfold gauge
  rw [cell_of_row w rb 0 _ _ _ h.hr, cell_of_row w ab 0 _ _ _ h.ha]
  rfl
theorem gauge_off {ab rb lb nb fb n i : Nat} {lv : Value} {w : World} (h : Ds w lb ab rb nb fb lv i false) : gauge ab rb n w = 0 := by
  unfold gauge
  rw [cell_of_row w rb 0 _ _ _ h.hr, cell_of_row w ab 0 _ _ _ h.ha]
  rfl
theorem gk_start {l : List Ins} (hl : InsIn l) {i1 i2 : Nat} {r1 r2 : Bool} {x : Ins} {t : T} (hx : (0 < l.length ∧ l[0]? = some x ∧ i1 = 0 + 1 ∧ r1 = true) ∨ (0 = l.length ∧ x = ⟨0, 0, ⟨#[]⟩⟩ ∧ i1 = 0 ∧ r1 = false)) (hs : SaidC l i1 r1 t i2 r2) : GK l t i2 [] i2 r2 := by
  refine ⟨fun h => ?_, fun h => ?_⟩
  · rcases hs with ⟨_, h2, h3, h4⟩ | ⟨h2, _⟩
    · rcases hx with ⟨_, _, h5, _⟩ | ⟨_, _, _, h5⟩
      · rw [h5] at h3
        have hp := pd_semi hl 1000 _ t i2 h3
        have hle := pd_le l 1000 _ t i2 h3
        exact ⟨h3, hp.1, h4, by omega, fun _ h => (by cases h), by simp [sumL], Nat.zero_le _, l.length, by omega, rfl⟩
      · rw [h5] at h2; cases h2
    · rw [h] at h2; cases h2
  · rw [← dec_same]
    rcases hs with ⟨h2, _⟩ | ⟨_, h2⟩
    · rw [h] at h2; cases h2
    · cases hp : pdT l 1000 1 with
      | none => exact dec_no1 hp
      | some p =>
        obtain ⟨t', j⟩ := p
        refine dec_no2 hp ?_
        rcases hx with ⟨_, _, h5, h6⟩ | ⟨h5, _⟩
        · rw [h5] at h2
          exact h2 h6 t' j hp
        · have := pd_le l 1000 1 t' j hp
          omega
theorem gk_step {l : List Ins} (hl : InsIn l) {h : T} {j : Nat} {acc : List T} {i i2 : Nat} {r2 : Bool} {x : Ins} {t : T} (hk : GK l h j acc i true) (hx : l[i]? = some x) (h7 : x.o = 7) (hs : SaidC l (i + 1) true t i2 r2) : GK l h j (acc ++ [t]) i2 r2 := by
  obtain ⟨k1, k2, k3, k4, k5, k6, k7, f, k8, k9⟩ := hk.1 rfl
  have hil : i < l.length := by
    rcases Nat.lt_or_ge i l.length with h1 | h1
    · exact h1
    · rw [List.getElem?_eq_none h1] at hx; cases hx
  obtain ⟨f', rfl⟩ : ∃ f', f = f' + 1 := ⟨f - 1, by omega⟩
  refine ⟨fun hr => ?_, fun hr => ?_⟩
  · rcases hs with ⟨_, _, h3, h4⟩ | ⟨h2, _⟩
    · have hp := pd_semi hl 1000 _ t i2 h3
      have hle := pd_le l 1000 _ t i2 h3
      refine ⟨k1, k2, k3, k4, fun g hg => ?_, ?_, by rw [List.length_append]; simp; omega, f', by omega, by rw [k9]; exact goals_go hx h7 h3 h4⟩
      · rcases List.mem_append.1 hg with hg | hg
        · exact k5 g hg
        · rw [List.mem_singleton.1 hg]; exact ⟨hp.1, h4⟩
      · have h1 := hp.2
        unfold sumL at k6 ⊢
        rw [List.map_append, List.sum_append]
        simp
        omega
    · rw [hr] at h2; cases h2
  · rcases hs with ⟨h2, _⟩ | ⟨_, h2⟩
    · rw [hr] at h2; cases h2
    · rw [← dec_same]
      refine dec_no3 k1 k3 ?_
      rw [k9]
      cases hp : pdT l 1000 (i + 1) with
      | none => exact goals_no1 hx h7 hp
      | some p =>
        obtain ⟨t', j'⟩ := p
        exact goals_no2 hx h7 hp (h2 rfl t' j' hp)
/-- No goal comes any more. -/
theorem gk_end {l : List Ins} (hl : InsIn l) {h : T} {j : Nat} {acc : List T} {i : Nat} (hk : GK l h j acc i true) (hi : i ≤ l.length) (hx : ∀ x, l[i]? = some x → x.o ≠ 7) :
    h.ok ∧ (∀ g ∈ acc, g.ok) ∧ sumL acc ≤ 6000 ∧ acc.length ≤ 6000 ∧ (encN h acc = l → decR (rdT l 1000) l = some (h, acc)) ∧ (¬ encN h acc = l → decR (rdT l 1000) l = none) := by
  obtain ⟨k1, k2, k3, k4, k5, k6, k7, f, k8, k9⟩ := hk.1 rfl
  have hg : goalsR (pdT l 1000) l l.length [] j = some (acc, i) := by rw [k9]; exact goals_end hx
  have hf := hl.few
  refine ⟨call_ok k2 k3, fun g hg => call_ok (k5 g hg).1 (k5 g hg).2, by omega, by omega, fun he => ?_, fun he => ?_⟩
  · rw [← dec_same]; exact dec_yes k1 k3 hg he
  · rw [← dec_same]; exact dec_no4 k1 k3 hg he
set_option maxRecDepth 100000 in
set_option maxHeartbeats 8000000 in
theorem pdecode_any {l : List Ins} (hl : InsIn l) {B0 : Nat} {lv : Value} {w : World} (hlv : GRw w B0 lv l) : Calls Tryd.prog 14 #[lv] w fun e w' => DecQ l w e w' := by
  have hlv := hlv.more (B' := w.heap.size) (Nat.le_refl _)
  have HLV := Lib.hid hlv
  have HL := Lib.hid hl
  have hfew := hl.few
  obtain ⟨A, c, rfl, _, _, _⟩ := hlv.all
  have SF : ∀ (F : Nat) (a : Addr) (cs : Array Value) (m : Mode) (W : World), (store a (.func (.func F) #[] cs) m).run Tryd.prog W = stored Tryd.prog W a (.func (.func F) #[] cs) m := fun F a cs m W => run_store _ W a _ m rfl
  obtain ⟨W, hW⟩ : ∃ W, W = (((((w.alloc (Obj.cells #[.slice A l.length c] 27)).alloc (Obj.cells #[.int .i64 0, .int .i64 0, .string ⟨#[]⟩, .slice none 0 0] 24)).alloc (Obj.cells #[.int .i64 0] 3)).alloc (Obj.cells #[.bool true] 4)).alloc (Obj.cells #[fnN (w.heap.size + 2) w.heap.size (w.heap.size + 3)] 70)).alloc (Obj.cells #[fnR (w.heap.size + 4) (w.heap.size + 3) (w.heap.size + 5)] 71) := ⟨_, rfl⟩
  have HW := Lib.hid hW
  have BX := Lib.hid (show Below w.heap.size w W by rw [hW]; exact belA (belA (belA (belA (belA (belA (Below.refl w.heap.size w) _) _) _) _) _) _)
  have D0 := Lib.hid (show Ds W w.heap.size (w.heap.size + 2) (w.heap.size + 3) (w.heap.size + 4) (w.heap.size + 5) (.slice A l.length c) 0 true by
    rw [hW]
    refine ⟨?_, ?_, ?_, ?_, heap_at _ _ (by simp)⟩
    all_goals
      repeat (first | exact heap_at _ _ (by simp) | refine (Below.heap_alloc _ _ _ (by simp <;> omega)).trans ?_))
  have XR0 := Lib.hid (show W.heap[w.heap.size + 1]? = some (.cells #[.int .i64 0, .int .i64 0, .string ⟨#[]⟩, .slice none 0 0] 24 (0, 0)) by
    rw [hW]
    repeat (first | exact heap_at _ _ (by simp) | refine (Below.heap_alloc _ _ _ (by simp <;> omega)).trans ?_))
  have CN := Lib.hid (next_d (B := w.heap.size) D0.out (hlv.below BX.out) (by omega) (Nat.zero_le _) (by omega) (by omega))
  have hWs : W.heap.size = w.heap.size + 6 := by rw [hW]; simp
  clear hlv hl hW
  go_enter Tryd.func14, Tryd.ntmps14
  unfold fnN fnR at HW
  go_wp2_with fail
  rw [← HW.out]
  refine CN.out.mono ?_
  rintro e w1 ⟨x, i1, r1, rfl, hd1, hx, hk1⟩
  have HX := Lib.hid hx.out
  have LV1 := Lib.hid (hk1.row (by omega) (by omega) (HLV.out.below BX.out))
  have K1 := Lib.hid hk1
  have hi1 : i1 ≤ l.length := by rcases hx.out with ⟨h1, _, h2, _⟩ | ⟨h1, _, h2, _⟩ <;> omega
  have XR1 := Lib.hid ((hk1.keep (w.heap.size + 1) (by omega) (by omega) (by omega)).trans XR0.out)
  have CC := Lib.hid (callable_d (B := w.heap.size) HL.out.ok HL.out (by omega) (by omega) hi1 hd1 LV1.out)
  have D1 := Lib.hid hd1
  have hs1 := hk1.low.size
  clear hx hk1 hd1 CN
  go_wp2_with fail
  refine CC.out.mono ?_
  rintro e w2 ⟨v, t, i2, r2, rfl, hv, hd2, hi2, hx2, hk2⟩
  obtain ⟨k0, k1, k2, A0, m0, c0, rfl⟩ := hv.agg
  have GK0 := Lib.hid (gk_start HL.out HX.out (said_of hx2.out))
  have K2 := Lib.hid (K1.out.trans hk2)
  have XR2 := Lib.hid ((hk2.keep (w.heap.size + 1) (by omega) (by omega) (by omega)).trans XR1.out)
  have LV2 := Lib.hid (hk2.row (by omega) (by omega) LV1.out)
  have BA := Lib.hid (Below.alloc (Below.refl w2.heap.size w2) (Nat.le_refl _) (Obj.cells #[.int .i64 k0, .int .i64 k1, .string k2, .slice A0 m0 c0] 24))
  have hs2 := hk2.low.size
  have D3 := Lib.hid (hd2.below BA.out)
  have TH3 := Lib.hid (hv.old.below BA.out)
  have B3 := Lib.hid ((BX.out.trans K2.out.low).trans (BA.out.mono (by omega)))
  have XR3 := Lib.hid ((BA.out.block _ (heap_lt XR2.out)).trans XR2.out)
  have XH3 := Lib.hid (heap_alloc_new w2 (Obj.cells #[.int .i64 k0, .int .i64 k1, .string k2, .slice A0 m0 c0] 24))
  clear hv hd2 hx2 hk2 CC
  go_wp2_with fail
  have TL0 := Lib.hid (show TL (w2.alloc (Obj.cells #[.int .i64 k0, .int .i64 k1, .string k2, .slice A0 m0 c0] 24)) (w2.heap.size + 1) (fun _ => False) (fun _ => False) (.slice none 0 0) [] [] from TL.empty (World.ownsRow_nil _ _ _ _) (fun _ h => h.elim))
  go_loopw [11] (fun gv wr => ∃ (i : Nat) (right : Bool) (acc : List T) (qs : List Q6) (P : Nat → Prop), i ≤ l.length ∧ Ds wr w.heap.size (w.heap.size + 2) (w.heap.size + 3) (w.heap.size + 4) (w.heap.size + 5) (.slice A l.length c) i right ∧ Below w.heap.size w wr ∧ w2.heap.size < wr.heap.size ∧ wr.heap[w.heap.size + 1]? = some (.cells #[.int .i64 0, .int .i64 0, .string ⟨#[]⟩, .slice none 0 0] 24 (0, 0)) ∧ wr.heap[w2.heap.size]? = some (.cells #[.int .i64 k0, .int .i64 k1, .string k2, .slice A0 m0 c0] 24 (0, 0)) ∧ TP wr (fun b => w1.heap.size ≤ b ∧ b < w2.heap.size) t (.agg #[.int .i64 k0, .int .i64 k1, .string k2, .slice A0 m0 c0]) ∧ TL wr (w2.heap.size + 1) (fun _ => False) P gv acc qs ∧ Hid (GK l t i2 acc i right)) (fun _ wr => gauge (w.heap.size + 2) (w.heap.size + 3) l.length wr)
  case atStart => exact ⟨i2, r2, [], [], _, hi2, D3.out, B3.out, (by simp), XR3.out, XH3.out, TH3.out, TL0.out, GK0⟩
  case round =>
    clear TL0 D3 B3 XR3 XH3 TH3 GK0 XR0 XR1 XR2 K1 K2 BX HW LV1 LV2 D0 D1 BA HX
    obtain ⟨i, right, acc, qs, P, hi, hd, hb, hw2, hr, hh, ht, htl, hK⟩ := hrel
    obtain ⟨gA, gc, rfl, hgc, hgA, hgx⟩ := htl.all
    have D := Lib.hid hd
    have BR := Lib.hid hb
    have XR := Lib.hid hr
    have XH := Lib.hid hh
    have TR := Lib.hid ht
    have TLR := Lib.hid htl
    have LVR := Lib.hid (HLV.out.below hb)
    have p0 := cell_of_row wr (w.heap.size + 3) 0 _ _ _ hd.hr
    have p1 := cell_of_row wr (w.heap.size + 2) 0 _ _ _ hd.ha
    have p2 := cell_of_row wr w.heap.size 0 _ _ _ hd.hl
    have lr := heap_lt hd.hr
    have la := heap_lt hd.ha
    have lres := heap_lt hr
    have lhd := heap_lt hh
    have za : ∀ j, wr.frozen? ⟨w.heap.size + 2, j, none⟩ = false := fun j => by simp [World.frozen?, D.out.ha]
    have zr : ∀ j, wr.frozen? ⟨w.heap.size + 1, j, none⟩ = false := fun j => by simp [World.frozen?, XR.out]
    have hws := hb.size
    obtain ⟨y0, y1, y2, y3⟩ := box4t hr
    obtain ⟨h0, h1, h2, h3⟩ := box4t hh
    clear hd hb hr hh ht htl hgx
    cases right with
    | false =>
      have HD := Lib.hid (hK.out.2 rfl)
      go_wp2_with fail
      go_region
      go_wp2_with fail
      have P := box_put4 XR.out (.int .i64 0) (.int .i64 0) (.string ⟨#[]⟩) (.slice none 0 0) rfl
      have P2 := P.2.2.2 w.heap.size w (Nat.le_succ _) BR.out
      obtain ⟨p0, p1, p2, p3⟩ := box4t P.1
      refine bodyPost_ret (v := .tuple #[.agg #[.int .i64 0, .int .i64 0, .string ⟨#[]⟩, .slice none 0 0], .slice none 0 0, .int .i64 110]) (by simp [results, go_sem, p0, p1, p2, p3]) rfl ?_
      exact decQ_none HD.out P2.drew
    | true =>
      by_cases hil : i < l.length
      · have hil' : (i : Int) < (l.length : Int) := by omega
        obtain ⟨g, og, rfl, hgl, hcell⟩ := grow LVR.out rfl hil
        obtain ⟨x, hx⟩ : ∃ x, l[i]'hil = x := ⟨_, rfl⟩
        rw [hx] at hcell
        have d0 : wr.cell? ⟨g, og + i * 3, none⟩ = some (.int .i64 x.o) := hcell 0 (by omega)
        have HX := Lib.hid (show l[i]? = some x by rw [List.getElem?_eq_getElem hil, hx])
        clear hcell hx
        obtain ⟨xo, xa, xs⟩ := x
        by_cases h7 : xo = 7
        · subst h7
          have HKK := Lib.hid (hK.out.1 rfl)
          have hal : acc.length ≤ 6000 := by have := HKK.out.2.2.2.2.2.2.1; omega
          obtain ⟨W4, hW4⟩ : ∃ W4, W4 = wr.setCell ⟨w.heap.size + 2, 0, none⟩ (.int .i64 ((i : Int) + 1)) := ⟨_, rfl⟩
          have HW4 := Lib.hid hW4
          have D4 := Lib.hid (show Ds W4 w.heap.size (w.heap.size + 2) (w.heap.size + 3) (w.heap.size + 4) (w.heap.size + 5) (.slice (some ⟨g, og, none⟩) l.length c) (i + 1) true by rw [hW4]; exact D.out.seta (i + 1))
          have K4 := Lib.hid (show Kd (w.heap.size + 2) (w.heap.size + 3) w.heap.size wr W4 by rw [hW4]; exact Kd.seta (by omega) _)
          have hs4 : W4.heap.size = wr.heap.size := by rw [hW4]; simp
          have CI := Lib.hid (callable_d (B := w.heap.size) HL.out.ok HL.out (by omega) (by omega) (show i + 1 ≤ l.length from hil) D4.out (K4.out.row (by omega) (by omega) LVR.out))
          clear hW4
          go_wp2_with fail
          rw [← HW4.out]
          refine CI.out.mono ?_
          rintro e w5 ⟨v5, t5, i5, r5, rfl, hv5, hd5, hi5, hx5, hk5⟩
          obtain ⟨e0, e1, e2, A5, m5, c5, rfl⟩ := hv5.agg
          have SC := Lib.hid (said_of hx5.out)
          have GK5 := Lib.hid (gk_step HL.out hK.out HX.out (by rfl) SC.out)
          have K5 := Lib.hid (K4.out.trans hk5)
          have D5 := Lib.hid hd5
          have hs5 : wr.heap.size ≤ w5.heap.size := by have := hk5.low.size; omega
          have HT5 := Lib.hid hv5
          have XR5 := Lib.hid ((K5.out.keep (w.heap.size + 1) lres (by omega) (by omega)).trans XR.out)
          have XH5 := Lib.hid ((K5.out.keep w2.heap.size lhd (by omega) (by omega)).trans XH.out)
          have TR5 := Lib.hid (K5.out.tp D.out TR.out)
          have TL5 := Lib.hid (K5.out.tl D.out TLR.out)
          have BA := Lib.hid (Below.alloc (Below.refl w5.heap.size w5) (Nat.le_refl _) (Obj.cells #[.int .i64 e0, .int .i64 e1, .string e2, .slice A5 m5 c5] 24))
          have TL7 := Lib.hid (TL5.out.below BA.out)
          clear hv5 hd5 hx5 hk5 CI d0 y0 y1 y2 y3 h0 h1 h2 h3 zr za p0 p1 p2
          go_wp2_with (at_builtin; go_must (refine wpList_append_at _ rfl _ _ _ rfl elTerm (w2.heap.size + 1) _ acc.length (qCells qs) rfl TL7.out.own (some ⟨w5.heap.size, 0, none⟩) 1 1 (qCells [⟨e0, e1, e2, A5, m5, c5⟩]) rfl (fun h => by cases h) (Nat.le_refl _) (by rw [qCells_length]; rfl) (fun _ => ⟨_, 0, rfl, fun j u hu => ?_⟩) (qCells_small _) (by omega) (by unfold maxLen; omega) (by simp; omega) ?_))
          · rw [Nat.zero_add, cell_of_row _ _ j _ _ _ (heap_alloc_new _ _)]
            simpa [qCells, Q6.cells] using hu
          intro v8 w8 hown8 hg8 hat8
          have hol := TLR.out.own.lt
          have TL8 := Lib.hid (TL7.out.app (P2 := fun b => wr.heap.size ≤ b ∧ b < w5.heap.size) (l2 := [t5]) (q2 := [⟨e0, e1, e2, A5, m5, c5⟩]) rfl hown8 hg8 (by simpa using hat8) (fun i h h' => by
              obtain rfl : i = 0 := by simp at h; omega
              exact ((HT5.out.old.below BA.out).more fun b hb => .inr (by have h9 := hb.1; rw [hs4] at h9; exact ⟨h9, hb.2⟩))) (fun b hb => ⟨by omega, by simp; omega⟩) (fun g hg hP => by have := (hol g hg).2; omega))
          have B8 := Lib.hid (Below.grown ((BR.out.trans (K5.out.low)).trans (BA.out.mono (by omega))) hg8 (by simp; omega) (fun k hk => by have := (hol k hk).1; omega))
          have hold : ∀ b o, b < w2.heap.size + 1 → w5.heap[b]? = some o → w8.heap[b]? = some o := fun b o hb ho => by
            have hbl : b < w5.heap.size := by
              rcases Nat.lt_or_ge b w5.heap.size with h9 | h9
              · exact h9
              · rw [Array.getElem?_eq_none h9] at ho; cases ho
            rw [hg8.block b (by simp; omega) (fun e => by have := (hol b e.symm).1; omega), BA.out.block b hbl, ho]
          have D8 := Lib.hid (show Ds w8 w.heap.size (w.heap.size + 2) (w.heap.size + 3) (w.heap.size + 4) (w.heap.size + 5) (.slice (some ⟨g, og, none⟩) l.length c) i5 r5 from ⟨hold _ _ (by omega) D5.out.hl, hold _ _ (by omega) D5.out.ha, hold _ _ (by omega) D5.out.hr, hold _ _ (by omega) D5.out.hn, hold _ _ (by omega) D5.out.hf⟩)
          have XR8 := Lib.hid (hold _ _ (by omega) XR5.out)
          have XH8 := Lib.hid (hold _ _ (by omega) XH5.out)
          have TR8 := Lib.hid (TR5.out.keep (S' := fun b => w1.heap.size ≤ b ∧ b < w2.heap.size) fun b cs f hS hb => ⟨hold b _ (by have := hS.2; omega) hb, hS⟩)
          have hs8 : w2.heap.size < w8.heap.size := heap_lt XH8.out
          clear hown8 hg8 hat8 hold
          go_wp2_with fail
          go_roundw
          case rel => exact ⟨i5, r5, acc ++ [t5], _, _, hi5, D8.out, B8.out, hs8, XR8.out, XH8.out, TR8.out, TL8.out, GK5⟩
          case measure =>
            rw [gauge_on D.out]
            cases r5 with
            | false => rw [gauge_off D8.out]; omega
            | true =>
              rw [gauge_on D8.out]
              rcases SC.out with ⟨_, _, h3, _⟩ | ⟨h3, _⟩
              · have := pd_le l 1000 _ t5 i5 h3
                omega
              · cases h3
        · have HNX := Lib.hid (show ∀ x, l[i]? = some x → x.o ≠ 7 from fun y hy => by rw [HX.out] at hy; injection hy with hy; subst hy; exact h7)
          have e7 : (xo == 7) = false := by simp; exact h7
          clear h7
          have GE := Lib.hid (gk_end HL.out hK.out hi HNX.out)
          have HLE := Lib.hid (enc_len GE.out.1.1.kinds (fun g hg => (GE.out.2.1 g hg).1.kinds))
          have CEF := Lib.hid (show ∀ V, Below wr.heap.size wr V → Calls Tryd.prog 6 #[.agg #[.int .i64 k0, .int .i64 k1, .string k2, .slice A0 m0 c0], .slice gA acc.length gc] V fun e w' => EncP t acc V e w' from fun V hV => pencode_any GE.out.1 GE.out.2.1 (TR.out.below hV) (TLR.out.below hV) (by have := GE.out.2.2.1; exact Nat.le_trans this (by omega)) (by have := GE.out.2.2.2.1; omega))
          have SS := Lib.hid (show ∀ V, Below wr.heap.size wr V → V.cell? ⟨w2.heap.size, 0, none⟩ = some (.int .i64 k0) ∧ V.cell? ⟨w2.heap.size, 1, none⟩ = some (.int .i64 k1) ∧ V.cell? ⟨w2.heap.size, 2, none⟩ = some (.string k2) ∧ V.cell? ⟨w2.heap.size, 3, none⟩ = some (.slice A0 m0 c0) ∧ V.cell? ⟨w.heap.size, 0, none⟩ = some (.slice (some ⟨g, og, none⟩) l.length c) ∧ V.cell? ⟨w.heap.size + 3, 0, none⟩ = some (.bool true) from fun V hV => by
            obtain ⟨h0, h1, h2, h3⟩ := box4t ((hV.block _ lhd).trans XH.out)
            exact ⟨h0, h1, h2, h3, cell_of_row V w.heap.size 0 _ _ _ ((hV.block _ (heap_lt D.out.hl)).trans D.out.hl), cell_of_row V (w.heap.size + 3) 0 _ _ _ ((hV.block _ (heap_lt D.out.hr)).trans D.out.hr)⟩)
          have hel : (encN t acc).length ≤ 100000 := by have := HLE.out; have h9 := GE.out.1.2; have h8 : nodesL acc ≤ 6000 := GE.out.2.2.1; have h7 := GE.out.2.2.2.1; omega
          go_wp2_with fail
          refine wp_region_held_drew (S := fun w1 => w1.cell? ⟨w2.heap.size, 0, none⟩ = some (.int .i64 k0) ∧ w1.cell? ⟨w2.heap.size, 1, none⟩ = some (.int .i64 k1) ∧ w1.cell? ⟨w2.heap.size, 2, none⟩ = some (.string k2) ∧ w1.cell? ⟨w2.heap.size, 3, none⟩ = some (.slice A0 m0 c0) ∧ w1.cell? ⟨w.heap.size, 0, none⟩ = some (.slice (some ⟨g, og, none⟩) l.length c) ∧ w1.cell? ⟨w.heap.size + 3, 0, none⟩ = some (.bool true)) (by kernel_rfl) ?Sra (fun hH0 => ?Bra)
          case Sra => (exact SS.out _ (Below.refl _ _).drew)
          refine wpAnyH_take (i := 0) (oi := { dst := some 41, op := Go.Op.load 4 (Go.Operand.tmp 6), type := 4, pos := "code.go:99", after := #[], guard := none }) (v := ?vra0) rfl (by kernel_rfl) (by kernel_rfl) (by kernel_rfl) (fun _ _ _ h => h) (Or.inl ⟨by rfl, ?hyra0⟩) (by assumption) ?restra0
          case hyra0 => (intro w hSw; (try dsimp only at hSw); go_simp; try with_reducible rfl)
          try simp only [Act.put, List.setIfInBounds_toArray, List.set_cons_zero, List.set_cons_succ]
          refine wpAnyH_take (i := 1) (oi := { dst := some 42, op := Go.Op.unOp Go.UnOp.not 4 (Go.Operand.tmp 41), type := 4, pos := "code.go:99", after := #[{ on := 0, ground := Go.Ground.data }], guard := none }) (v := ?vra1) rfl (by kernel_rfl) (by kernel_rfl) (by kernel_rfl) (fun _ _ _ h => h) (Or.inl ⟨by rfl, ?hyra1⟩) (by assumption) ?restra1
          case hyra1 => (intro w hSw; (try dsimp only at hSw); go_simp; try with_reducible rfl)
          try simp only [Act.put, List.setIfInBounds_toArray, List.set_cons_zero, List.set_cons_succ]
          refine wpAnyH_take (i := 2) (oi := { dst := some 43, op := Go.Op.move (Go.Operand.tmp 42), type := 4, pos := "code.go:99", after := #[{ on := 1, ground := Go.Ground.data }], guard := none }) (v := ?vra2) rfl (by kernel_rfl) (by kernel_rfl) (by kernel_rfl) (fun _ _ _ h => h) (Or.inl ⟨by rfl, ?hyra2⟩) (by assumption) ?restra2
          case hyra2 => (intro w hSw; (try dsimp only at hSw); go_simp; try with_reducible rfl)
          try simp only [Act.put, List.setIfInBounds_toArray, List.set_cons_zero, List.set_cons_succ]
          refine wpAnyH_take (i := 3) (oi := { dst := some 44, op := Go.Op.load 24 (Go.Operand.tmp 10), type := 24, pos := "code.go:99", after := #[{ on := 2, ground := Go.Ground.guard }], guard := some (2, false) }) (v := ?vra3) rfl (by kernel_rfl) (by kernel_rfl) (by kernel_rfl) (fun _ _ _ h => h) (Or.inl ⟨by rfl, ?hyra3⟩) (by assumption) ?restra3
          case hyra3 => (intro w hSw; (try dsimp only at hSw); go_simp; try with_reducible rfl)
          try simp only [Act.put, List.setIfInBounds_toArray, List.set_cons_zero, List.set_cons_succ]
          refine wpAnyH_take (i := 4) (oi := { dst := some 45, op := Go.Op.move (Go.Operand.tmp 11), type := 22, pos := "code.go:99", after := #[{ on := 2, ground := Go.Ground.guard }], guard := some (2, false) }) (v := ?vra4) rfl (by kernel_rfl) (by kernel_rfl) (by kernel_rfl) (fun _ _ _ h => h) (Or.inl ⟨by rfl, ?hyra4⟩) (by assumption) ?restra4
          case hyra4 => (intro w hSw; (try dsimp only at hSw); go_simp; try with_reducible rfl)
          try simp only [Act.put, List.setIfInBounds_toArray, List.set_cons_zero, List.set_cons_succ]
          refine wpAnyH_take (i := 6) (oi := { dst := some 47, op := Go.Op.load 27 (Go.Operand.tmp 1), type := 27, pos := "code.go:99", after := #[{ on := 2, ground := Go.Ground.guard }], guard := some (2, false) }) (v := ?vra6) rfl (by kernel_rfl) (by kernel_rfl) (by kernel_rfl) (fun _ _ _ h => h) (Or.inl ⟨by rfl, ?hyra6⟩) (by assumption) ?restra6
          case hyra6 => (intro w hSw; (try dsimp only at hSw); go_simp; try with_reducible rfl)
          try simp only [Act.put, List.setIfInBounds_toArray, List.set_cons_zero, List.set_cons_succ]
          refine wpAnyH_ready (rs := [5]) (by kernel_rfl) (by simp) ?_
          refine AllReadyH.cons (o := { dst := some 46, op := Go.Op.call { callee := Go.Callee.value (Go.Operand.func 6), args := #[Go.Operand.tmp 44, Go.Operand.tmp 45], argTypes := #[24, 22] }, type := 27, pos := "code.go:99", after := #[{ on := 3, ground := Go.Ground.data }, { on := 4, ground := Go.Ground.data }, { on := 2, ground := Go.Ground.chain }, { on := 2, ground := Go.Ground.guard }], guard := some (2, false) }) rfl (fun K hK => ?_) ?nilra5
          case nilra5 => exact AllReadyH.nil
          go_simp
          (refine (CEF.out _ (by repeat (first | (with_reducible exact Below.refl _ _) | (with_reducible refine Below.drew ?_) | (with_reducible refine Below.alloc ?_ (by simp) _)))).mono ?_)
          rintro e w5 ⟨ev, rfl, he, hk⟩
          have B5 := Lib.hid (show Below wr.heap.size wr w5 from (Below.refl wr.heap.size wr).drew.trans (hk.low.mono (Nat.le_refl _)))
          have HE := Lib.hid he
          clear he hk
          go_wp2_with fail
          refine hK.out _ _ ?Sra5 (fun hH1 => ?restra5)
          case Sra5 => (exact SS.out _ B5.out)
          clear hK K
          try simp only [Act.put, List.setIfInBounds_toArray, List.set_cons_zero, List.set_cons_succ]
          refine wpAnyH_ready (rs := [7]) (by kernel_rfl) (by simp) ?_
          refine AllReadyH.cons (o := { dst := some 48, op := Go.Op.call { callee := Go.Callee.value (Go.Operand.func 33), args := #[Go.Operand.tmp 46, Go.Operand.tmp 47], argTypes := #[27, 27] }, type := 4, pos := "code.go:99", after := #[{ on := 5, ground := Go.Ground.data }, { on := 6, ground := Go.Ground.data }, { on := 5, ground := Go.Ground.chain }, { on := 2, ground := Go.Ground.guard }], guard := some (2, false) }) rfl (fun K hK => ?_) ?nilra7
          case nilra7 => exact AllReadyH.nil
          go_simp
          (refine (iequal_any _ HE.out.g (LVR.out.below B5.out) hel).mono ?_)
          rintro e w6 ⟨⟨qb, rfl, hqb⟩, hb6⟩
          have B6 := Lib.hid (B5.out.trans (hb6.mono B5.out.size))
          have HQ := Lib.hid hqb
          clear hb6 hqb
          go_wp2_with fail
          refine hK.out _ _ ?Sra7 (fun hH2 => ?restra7)
          case Sra7 => (exact SS.out _ B6.out)
          clear hK K
          try simp only [Act.put, List.setIfInBounds_toArray, List.set_cons_zero, List.set_cons_succ]
          refine wpAnyH_take (i := 8) (oi := { dst := some 49, op := Go.Op.unOp Go.UnOp.not 4 (Go.Operand.tmp 48), type := 4, pos := "code.go:99", after := #[{ on := 7, ground := Go.Ground.data }, { on := 2, ground := Go.Ground.guard }], guard := some (2, false) }) (v := ?vra8) rfl (by kernel_rfl) (by kernel_rfl) (by kernel_rfl) (fun _ _ _ h => h) (Or.inl ⟨by rfl, ?hyra8⟩) (by assumption) ?restra8
          case hyra8 => (intro w hSw; (try dsimp only at hSw); go_simp; try with_reducible rfl)
          try simp only [Act.put, List.setIfInBounds_toArray, List.set_cons_zero, List.set_cons_succ]
          refine wpAnyH_take (i := 9) (oi := { dst := some 50, op := Go.Op.pick (Go.Operand.tmp 43) (Go.Operand.const (Go.Value.bool true)) (Go.Operand.tmp 49), type := 4, pos := "code.go:99", after := #[{ on := 2, ground := Go.Ground.data }, { on := 8, ground := Go.Ground.data }], guard := none }) (v := ?vra9) rfl (by kernel_rfl) (by kernel_rfl) (by kernel_rfl) (fun _ _ _ h => h) (Or.inl ⟨by rfl, ?hyra9⟩) (by assumption) ?restra9
          case hyra9 => (intro w hSw; (try dsimp only at hSw); go_simp; try with_reducible rfl)
          try simp only [Act.put, List.setIfInBounds_toArray, List.set_cons_zero, List.set_cons_succ]
          refine wpAnyH_done (by kernel_rfl) ?_ _
          have XR6 := Lib.hid ((B6.out.block _ lres).trans XR.out)
          have XH6 := Lib.hid ((B6.out.block _ lhd).trans XH.out)
          have TR6 := Lib.hid (TR.out.below B6.out)
          have TL6 := Lib.hid (TLR.out.below B6.out)
          have BT := Lib.hid (BR.out.trans (B6.out.mono hws))
          clear y0 y1 y2 y3 h0 h1 h2 h3 zr za
          obtain ⟨y0, y1, y2, y3⟩ := box4t XR6.out
          obtain ⟨h0, h1, h2, h3⟩ := box4t XH6.out
          have zr6 : ∀ j, w6.frozen? ⟨w.heap.size + 1, j, none⟩ = false := fun j => by simp [World.frozen?, XR6.out]
          have hr6l := heap_lt XR6.out
          have hh6l := heap_lt XH6.out
          cases qb with
          | false =>
            have HD := Lib.hid (GE.out.2.2.2.2.2 (fun h => absurd (HQ.out.2 h) (by decide)))
            go_wp2_with fail
            have P := box_put4 XR6.out (.int .i64 0) (.int .i64 0) (.string ⟨#[]⟩) (.slice none 0 0) rfl
            obtain ⟨p0, p1, p2, p3⟩ := box4t P.1
            refine bodyPost_ret (v := .tuple #[.agg #[.int .i64 0, .int .i64 0, .string ⟨#[]⟩, .slice none 0 0], .slice none 0 0, .int .i64 110]) (by simp [results, go_sem, p0, p1, p2, p3]) rfl ?_
            exact decQ_none HD.out (P.2.2.2 _ _ (Nat.le_succ _) BT.out)
          | true =>
            have HD := Lib.hid (GE.out.2.2.2.2.1 (HQ.out.1 (by first | rfl | trivial)))
            go_wp2_with fail
            have P := box_put4 XR6.out (.int .i64 k0) (.int .i64 k1) (.string k2) (.slice A0 m0 c0) rfl
            obtain ⟨p0, p1, p2, p3⟩ := box4t P.1
            refine bodyPost_ret (v := .tuple #[.agg #[.int .i64 k0, .int .i64 k1, .string k2, .slice A0 m0 c0], .slice gA acc.length gc, .int .i64 0]) (by simp [results, go_sem, p0, p1, p2, p3]) rfl ?_
            refine ⟨_, _, 0, rfl, P.2.2.2 _ _ (Nat.le_succ _) BT.out, Lib.hid ?_⟩
            rw [HD.out]
            exact ⟨rfl, GE.out.1, GE.out.2.1, GE.out.2.2.1, w2.heap.size + 1, _, _, _, (fun b hb => by rw [P.2.1]; have := hb.2; omega), (fun b hb => by have := hb.2; omega), TR6.out.keep (fun b _ _ hS hb => ⟨(P.2.2.1 b (by have := hS.1; omega)).trans hb, hS⟩), TL6.out.put (by omega) P.2.2.1 P.2.1⟩
      · have hil' : ¬ (i : Int) < (l.length : Int) := by omega
        have HNX := Lib.hid (show ∀ x, l[i]? = some x → x.o ≠ 7 from fun y hy => by rw [List.getElem?_eq_none (by omega)] at hy; cases hy)
        have GE := Lib.hid (gk_end HL.out hK.out hi HNX.out)
        have HLE := Lib.hid (enc_len GE.out.1.1.kinds (fun g hg => (GE.out.2.1 g hg).1.kinds))
        have CEF := Lib.hid (show ∀ V, Below wr.heap.size wr V → Calls Tryd.prog 6 #[.agg #[.int .i64 k0, .int .i64 k1, .string k2, .slice A0 m0 c0], .slice gA acc.length gc] V fun e w' => EncP t acc V e w' from fun V hV => pencode_any GE.out.1 GE.out.2.1 (TR.out.below hV) (TLR.out.below hV) (by have := GE.out.2.2.1; exact Nat.le_trans this (by omega)) (by have := GE.out.2.2.2.1; omega))
        have SS := Lib.hid (show ∀ V, Below wr.heap.size wr V → V.cell? ⟨w2.heap.size, 0, none⟩ = some (.int .i64 k0) ∧ V.cell? ⟨w2.heap.size, 1, none⟩ = some (.int .i64 k1) ∧ V.cell? ⟨w2.heap.size, 2, none⟩ = some (.string k2) ∧ V.cell? ⟨w2.heap.size, 3, none⟩ = some (.slice A0 m0 c0) ∧ V.cell? ⟨w.heap.size, 0, none⟩ = some (.slice A l.length c) ∧ V.cell? ⟨w.heap.size + 3, 0, none⟩ = some (.bool true) from fun V hV => by
          obtain ⟨h0, h1, h2, h3⟩ := box4t ((hV.block _ lhd).trans XH.out)
          exact ⟨h0, h1, h2, h3, cell_of_row V w.heap.size 0 _ _ _ ((hV.block _ (heap_lt D.out.hl)).trans D.out.hl), cell_of_row V (w.heap.size + 3) 0 _ _ _ ((hV.block _ (heap_lt D.out.hr)).trans D.out.hr)⟩)
        have hel : (encN t acc).length ≤ 100000 := by have := HLE.out; have h9 := GE.out.1.2; have h8 : nodesL acc ≤ 6000 := GE.out.2.2.1; have h7 := GE.out.2.2.2.1; omega
        go_wp2_with fail
        refine wp_region_held_drew (S := fun w1 => w1.cell? ⟨w2.heap.size, 0, none⟩ = some (.int .i64 k0) ∧ w1.cell? ⟨w2.heap.size, 1, none⟩ = some (.int .i64 k1) ∧ w1.cell? ⟨w2.heap.size, 2, none⟩ = some (.string k2) ∧ w1.cell? ⟨w2.heap.size, 3, none⟩ = some (.slice A0 m0 c0) ∧ w1.cell? ⟨w.heap.size, 0, none⟩ = some (.slice A l.length c) ∧ w1.cell? ⟨w.heap.size + 3, 0, none⟩ = some (.bool true)) (by kernel_rfl) ?Srb (fun hH0 => ?Brb)
        case Srb => (exact SS.out _ (Below.refl _ _).drew)
        refine wpAnyH_take (i := 0) (oi := { dst := some 41, op := Go.Op.load 4 (Go.Operand.tmp 6), type := 4, pos := "code.go:99", after := #[], guard := none }) (v := ?vrb0) rfl (by kernel_rfl) (by kernel_rfl) (by kernel_rfl) (fun _ _ _ h => h) (Or.inl ⟨by rfl, ?hyrb0⟩) (by assumption) ?restrb0
        case hyrb0 => (intro w hSw; (try dsimp only at hSw); go_simp; try with_reducible rfl)
        try simp only [Act.put, List.setIfInBounds_toArray, List.set_cons_zero, List.set_cons_succ]
        refine wpAnyH_take (i := 1) (oi := { dst := some 42, op := Go.Op.unOp Go.UnOp.not 4 (Go.Operand.tmp 41), type := 4, pos := "code.go:99", after := #[{ on := 0, ground := Go.Ground.data }], guard := none }) (v := ?vrb1) rfl (by kernel_rfl) (by kernel_rfl) (by kernel_rfl) (fun _ _ _ h => h) (Or.inl ⟨by rfl, ?hyrb1⟩) (by assumption) ?restrb1
        case hyrb1 => (intro w hSw; (try dsimp only at hSw); go_simp; try with_reducible rfl)
        try simp only [Act.put, List.setIfInBounds_toArray, List.set_cons_zero, List.set_cons_succ]
        refine wpAnyH_take (i := 2) (oi := { dst := some 43, op := Go.Op.move (Go.Operand.tmp 42), type := 4, pos := "code.go:99", after := #[{ on := 1, ground := Go.Ground.data }], guard := none }) (v := ?vrb2) rfl (by kernel_rfl) (by kernel_rfl) (by kernel_rfl) (fun _ _ _ h => h) (Or.inl ⟨by rfl, ?hyrb2⟩) (by assumption) ?restrb2
        case hyrb2 => (intro w hSw; (try dsimp only at hSw); go_simp; try with_reducible rfl)
        try simp only [Act.put, List.setIfInBounds_toArray, List.set_cons_zero, List.set_cons_succ]
        refine wpAnyH_take (i := 3) (oi := { dst := some 44, op := Go.Op.load 24 (Go.Operand.tmp 10), type := 24, pos := "code.go:99", after := #[{ on := 2, ground := Go.Ground.guard }], guard := some (2, false) }) (v := ?vrb3) rfl (by kernel_rfl) (by kernel_rfl) (by kernel_rfl) (fun _ _ _ h => h) (Or.inl ⟨by rfl, ?hyrb3⟩) (by assumption) ?restrb3
        case hyrb3 => (intro w hSw; (try dsimp only at hSw); go_simp; try with_reducible rfl)
        try simp only [Act.put, List.setIfInBounds_toArray, List.set_cons_zero, List.set_cons_succ]
        refine wpAnyH_take (i := 4) (oi := { dst := some 45, op := Go.Op.move (Go.Operand.tmp 11), type := 22, pos := "code.go:99", after := #[{ on := 2, ground := Go.Ground.guard }], guard := some (2, false) }) (v := ?vrb4) rfl (by kernel_rfl) (by kernel_rfl) (by kernel_rfl) (fun _ _ _ h => h) (Or.inl ⟨by rfl, ?hyrb4⟩) (by assumption) ?restrb4
        case hyrb4 => (intro w hSw; (try dsimp only at hSw); go_simp; try with_reducible rfl)
        try simp only [Act.put, List.setIfInBounds_toArray, List.set_cons_zero, List.set_cons_succ]
        refine wpAnyH_take (i := 6) (oi := { dst := some 47, op := Go.Op.load 27 (Go.Operand.tmp 1), type := 27, pos := "code.go:99", after := #[{ on := 2, ground := Go.Ground.guard }], guard := some (2, false) }) (v := ?vrb6) rfl (by kernel_rfl) (by kernel_rfl) (by kernel_rfl) (fun _ _ _ h => h) (Or.inl ⟨by rfl, ?hyrb6⟩) (by assumption) ?restrb6
        case hyrb6 => (intro w hSw; (try dsimp only at hSw); go_simp; try with_reducible rfl)
        try simp only [Act.put, List.setIfInBounds_toArray, List.set_cons_zero, List.set_cons_succ]
        refine wpAnyH_ready (rs := [5]) (by kernel_rfl) (by simp) ?_
        refine AllReadyH.cons (o := { dst := some 46, op := Go.Op.call { callee := Go.Callee.value (Go.Operand.func 6), args := #[Go.Operand.tmp 44, Go.Operand.tmp 45], argTypes := #[24, 22] }, type := 27, pos := "code.go:99", after := #[{ on := 3, ground := Go.Ground.data }, { on := 4, ground := Go.Ground.data }, { on := 2, ground := Go.Ground.chain }, { on := 2, ground := Go.Ground.guard }], guard := some (2, false) }) rfl (fun K hK => ?_) ?nilrb5
        case nilrb5 => exact AllReadyH.nil
        go_simp
        (refine (CEF.out _ (by repeat (first | (with_reducible exact Below.refl _ _) | (with_reducible refine Below.drew ?_) | (with_reducible refine Below.alloc ?_ (by simp) _)))).mono ?_)
        rintro e w5 ⟨ev, rfl, he, hk⟩
        have B5 := Lib.hid (show Below wr.heap.size wr w5 from (Below.refl wr.heap.size wr).drew.trans (hk.low.mono (Nat.le_refl _)))
        have HE := Lib.hid he
        clear he hk
        go_wp2_with fail
        refine hK.out _ _ ?Srb5 (fun hH1 => ?restrb5)
        case Srb5 => (exact SS.out _ B5.out)
        clear hK K
        try simp only [Act.put, List.setIfInBounds_toArray, List.set_cons_zero, List.set_cons_succ]
        refine wpAnyH_ready (rs := [7]) (by kernel_rfl) (by simp) ?_
        refine AllReadyH.cons (o := { dst := some 48, op := Go.Op.call { callee := Go.Callee.value (Go.Operand.func 33), args := #[Go.Operand.tmp 46, Go.Operand.tmp 47], argTypes := #[27, 27] }, type := 4, pos := "code.go:99", after := #[{ on := 5, ground := Go.Ground.data }, { on := 6, ground := Go.Ground.data }, { on := 5, ground := Go.Ground.chain }, { on := 2, ground := Go.Ground.guard }], guard := some (2, false) }) rfl (fun K hK => ?_) ?nilrb7
        case nilrb7 => exact AllReadyH.nil
        go_simp
        (refine (iequal_any _ HE.out.g (LVR.out.below B5.out) hel).mono ?_)
        rintro e w6 ⟨⟨qb, rfl, hqb⟩, hb6⟩
        have B6 := Lib.hid (B5.out.trans (hb6.mono B5.out.size))
        have HQ := Lib.hid hqb
        clear hb6 hqb
        go_wp2_with fail
        refine hK.out _ _ ?Srb7 (fun hH2 => ?restrb7)
        case Srb7 => (exact SS.out _ B6.out)
        clear hK K
        try simp only [Act.put, List.setIfInBounds_toArray, List.set_cons_zero, List.set_cons_succ]
        refine wpAnyH_take (i := 8) (oi := { dst := some 49, op := Go.Op.unOp Go.UnOp.not 4 (Go.Operand.tmp 48), type := 4, pos := "code.go:99", after := #[{ on := 7, ground := Go.Ground.data }, { on := 2, ground := Go.Ground.guard }], guard := some (2, false) }) (v := ?vrb8) rfl (by kernel_rfl) (by kernel_rfl) (by kernel_rfl) (fun _ _ _ h => h) (Or.inl ⟨by rfl, ?hyrb8⟩) (by assumption) ?restrb8
        case hyrb8 => (intro w hSw; (try dsimp only at hSw); go_simp; try with_reducible rfl)
        try simp only [Act.put, List.setIfInBounds_toArray, List.set_cons_zero, List.set_cons_succ]
        refine wpAnyH_take (i := 9) (oi := { dst := some 50, op := Go.Op.pick (Go.Operand.tmp 43) (Go.Operand.const (Go.Value.bool true)) (Go.Operand.tmp 49), type := 4, pos := "code.go:99", after := #[{ on := 2, ground := Go.Ground.data }, { on := 8, ground := Go.Ground.data }], guard := none }) (v := ?vrb9) rfl (by kernel_rfl) (by kernel_rfl) (by kernel_rfl) (fun _ _ _ h => h) (Or.inl ⟨by rfl, ?hyrb9⟩) (by assumption) ?restrb9
        case hyrb9 => (intro w hSw; (try dsimp only at hSw); go_simp; try with_reducible rfl)
        try simp only [Act.put, List.setIfInBounds_toArray, List.set_cons_zero, List.set_cons_succ]
        refine wpAnyH_done (by kernel_rfl) ?_ _
        have XR6 := Lib.hid ((B6.out.block _ lres).trans XR.out)
        have XH6 := Lib.hid ((B6.out.block _ lhd).trans XH.out)
        have TR6 := Lib.hid (TR.out.below B6.out)
        have TL6 := Lib.hid (TLR.out.below B6.out)
        have BT := Lib.hid (BR.out.trans (B6.out.mono hws))
        clear y0 y1 y2 y3 h0 h1 h2 h3 zr za
        obtain ⟨y0, y1, y2, y3⟩ := box4t XR6.out
        obtain ⟨h0, h1, h2, h3⟩ := box4t XH6.out
        have zr6 : ∀ j, w6.frozen? ⟨w.heap.size + 1, j, none⟩ = false := fun j => by simp [World.frozen?, XR6.out]
        have hr6l := heap_lt XR6.out
        have hh6l := heap_lt XH6.out
        cases qb with
        | false =>
          have HD := Lib.hid (GE.out.2.2.2.2.2 (fun h => absurd (HQ.out.2 h) (by decide)))
          go_wp2_with fail
          have P := box_put4 XR6.out (.int .i64 0) (.int .i64 0) (.string ⟨#[]⟩) (.slice none 0 0) rfl
          obtain ⟨p0, p1, p2, p3⟩ := box4t P.1
          refine bodyPost_ret (v := .tuple #[.agg #[.int .i64 0, .int .i64 0, .string ⟨#[]⟩, .slice none 0 0], .slice none 0 0, .int .i64 110]) (by simp [results, go_sem, p0, p1, p2, p3]) rfl ?_
          exact decQ_none HD.out (P.2.2.2 _ _ (Nat.le_succ _) BT.out)
        | true =>
          have HD := Lib.hid (GE.out.2.2.2.2.1 (HQ.out.1 (by first | rfl | trivial)))
          go_wp2_with fail
          have P := box_put4 XR6.out (.int .i64 k0) (.int .i64 k1) (.string k2) (.slice A0 m0 c0) rfl
          obtain ⟨p0, p1, p2, p3⟩ := box4t P.1
          refine bodyPost_ret (v := .tuple #[.agg #[.int .i64 k0, .int .i64 k1, .string k2, .slice A0 m0 c0], .slice gA acc.length gc, .int .i64 0]) (by simp [results, go_sem, p0, p1, p2, p3]) rfl ?_
          refine ⟨_, _, 0, rfl, P.2.2.2 _ _ (Nat.le_succ _) BT.out, Lib.hid ?_⟩
          rw [HD.out]
          exact ⟨rfl, GE.out.1, GE.out.2.1, GE.out.2.2.1, w2.heap.size + 1, _, _, _, (fun b hb => by rw [P.2.1]; have := hb.2; omega), (fun b hb => by have := hb.2; omega), TR6.out.keep (fun b _ _ hS hb => ⟨(P.2.2.1 b (by have := hS.1; omega)).trans hb, hS⟩), TL6.out.put (by omega) P.2.2.1 P.2.1⟩
end Go.Proofs.YtlgeepjlnjlgdaaDoor
