/- The walks through coneyref11.callable and Decode. The walk through coneyref11.Decode. -/
import Derived.Test.YtlgeepjlnjlgdaaDoorEO
import Derived.Test.YtlgeepjlnjlgdaaDoorER
import Derived.Test.YtlgeepjlnjlgdaaDoorEH
namespace Go.Proofs.YtlgeepjlnjlgdaaDoor
open Go.RowKit

set_option maxRecDepth 100000 in
set_option maxHeartbeats 4000000 in
theorem rcall_any {t : T} (hs : t.short) (hn : t.nodes ≤ 100000) {S : Nat → Prop} {v : Value} {w : World} (hv : TP w S t v) :
    Calls Tryd.prog 35 #[v] w fun e w' => (∃ b, e = .returned (.bool b) ∧ Hid (b = true ↔ t.callC)) ∧ Below w.heap.size w w' := by
  obtain ⟨k, n, s, A, m, c, rfl⟩ := hv.agg
  have BX := Lib.hid (belA (Below.refl w.heap.size w) (Obj.cells #[.int .i64 k, .int .i64 n, .string s, .slice A m c] 24))
  have HB0 := Lib.hid (heap_alloc_new w (Obj.cells #[.int .i64 k, .int .i64 n, .string s, .slice A m c] 24))
  have HV := Lib.hid (hv.below BX.out)
  have CG := Lib.hid (rgood_any hs HV.out)
  have HK := Lib.hid (show t.kindC ↔ k = 3 ∨ k = 4 by
    cases t with
    | nil => exact hv.elim
    | mk k' n' s' m' a =>
      obtain ⟨e0, _⟩ := hv.args
      injection e0 with _ e0
      rw [e0]; rfl)
  have HN := Lib.hid hn
  clear hv hs hn
  by_cases h34 : k = 3 ∨ k = 4
  · have HC := Lib.hid (HK.out.2 h34)
    have fin : ∀ (w1 : World) (b : Bool), Below w.heap.size w w1 → (b = true ↔ t.callC) → (∃ b', Ending.returned (.bool b) = .returned (.bool b') ∧ Hid (b' = true ↔ t.callC)) ∧ Below w.heap.size w w1 := fun w1 b h1 h2 => ⟨⟨b, rfl, Lib.hid h2⟩, h1⟩
    have FIN := Lib.hid fin
    clear fin
    rcases h34 with rfl | rfl
    all_goals
      go_enter Tryd.func35, Tryd.ntmps35
      go_wp2_with fail
      refine CG.out.mono ?_
      rintro e w1 ⟨⟨b, rfl, hb⟩, hb1⟩
      have HB := Lib.hid hb.out
      have B1 := Lib.hid (BX.out.trans (hb1.mono (by simp)))
      have X1 := Lib.hid ((hb1.block w.heap.size (by simp)).trans HB0.out)
      have T1 := Lib.hid (HV.out.below hb1)
      obtain ⟨x0, x1, x2, x3⟩ := box4t X1.out
      clear hb hb1
      cases b with
      | false =>
        have P := Lib.hid (FIN.out w1 false B1.out ⟨(fun h => by cases h), fun h => absurd (HB.out.2 h.2.1) (by decide)⟩)
        go_wp2_with fail
        go_ret
        exact P.out
      | true =>
        have CD := Lib.hid (rdepth_any t HN.out _ w1 T1.out.tin)
        go_wp2_with fail
        refine CD.out.mono ?_
        rintro e w2 ⟨rfl, hb2⟩
        have P := Lib.hid (FIN.out w2 (decide ((t.depth : Int) ≤ 1000)) (B1.out.trans (hb2.mono B1.out.size)) ⟨fun h => ⟨HC.out, HB.out.1 (by first | rfl | trivial), by have := of_decide_eq_true h; omega⟩, fun h => decide_eq_true (by have := h.2.2; omega)⟩)
        clear hb2
        go_wp2_with fail
        go_ret
        exact P.out
  · have h3 : (k == 3) = false := by simp; omega
    have h4 : (k == 4) = false := by simp; omega
    have P := Lib.hid (show ¬ t.callC from fun h => h34 (HK.out.1 h.1))
    clear h34
    go_enter Tryd.func35, Tryd.ntmps35
    go_wp2_with fail
    go_ret
    exact ⟨⟨false, rfl, Lib.hid ⟨(fun h => by cases h), fun h => absurd h P.out⟩⟩, BX.out⟩
end Go.Proofs.YtlgeepjlnjlgdaaDoor
namespace Go.Proofs.YtlgeepjlnjlgdaaDoor
open Go.RowKit

/-- What a decoder hands back: a clause, or none. -/
def DecQ (l : List Ins) (w : World) (e : Ending) (w' : World) : Prop :=
  ∃ (hv gv : Value) (er : Int), e = .returned (.tuple #[hv, gv, .int .i64 er]) ∧ Below w.heap.size w w' ∧ Hid (match decR (rdT l 1000) l with
    | some (h, gs) => er = 0 ∧ h.ok ∧ (∀ g ∈ gs, g.ok) ∧ sumL gs ≤ 6000 ∧ ∃ (B : Nat) (S P : Nat → Prop) (qs : List Q6), (∀ b, S b → b < w'.heap.size) ∧ (∀ b, S b → b < B) ∧ TP w' S h hv ∧ TL w' B (fun _ => False) P gv gs qs
    | none => er = 110 ∧ hv = .agg #[.int .i64 0, .int .i64 0, .string ⟨#[]⟩, .slice none 0 0] ∧ gv = .slice none 0 0)
theorem decQ_none {l : List Ins} {w w' : World} (h : decR (rdT l 1000) l = none) (hb : Below w.heap.size w w') : DecQ l w (.returned (.tuple #[.agg #[.int .i64 0, .int .i64 0, .string ⟨#[]⟩, .slice none 0 0], .slice none 0 0, .int .i64 110])) w' := ⟨_, _, _, rfl, hb, Lib.hid (by rw [h]; exact ⟨rfl, rfl, rfl⟩)⟩
section
variable {rd : Nat → Option (T × Nat)} {l : List Ins}
theorem dec_no1 (h : rd 1 = none) : decR rd l = none := by unfold decR; rw [h]
theorem dec_no2 {t : T} {i : Nat} (h : rd 1 = some (t, i)) (hc : ¬ t.callC) : decR rd l = none := by unfold decR; rw [h]; dsimp only; rw [if_neg hc]
theorem dec_no3 {t : T} {i : Nat} (h : rd 1 = some (t, i)) (hc : t.callC) (hg : goalsR rd l l.length [] i = none) : decR rd l = none := by unfold decR; rw [h]; dsimp only; rw [if_pos hc, hg]
theorem dec_no4 {t : T} {i j : Nat} {gs : List T} (h : rd 1 = some (t, i)) (hc : t.callC) (hg : goalsR rd l l.length [] i = some (gs, j)) (he : encN t gs ≠ l) : decR rd l = none := by unfold decR; rw [h]; dsimp only; rw [if_pos hc, hg]; exact if_neg he
theorem dec_yes {t : T} {i j : Nat} {gs : List T} (h : rd 1 = some (t, i)) (hc : t.callC) (hg : goalsR rd l l.length [] i = some (gs, j)) (he : encN t gs = l) : decR rd l = some (t, gs) := by unfold decR; rw [h]; dsimp only; rw [if_pos hc, hg]; exact if_pos he
theorem goals_end {f : Nat} {acc : List T} {i : Nat} (h : ∀ x, l[i]? = some x → x.o ≠ 7) : goalsR rd l f acc i = some (acc, i) := by
  cases f with
  | zero => rfl
  | succ f =>
    unfold goalsR
    cases hx : l[i]? with
    | none => rfl
    | some x => dsimp only; rw [if_neg (h x hx)]
theorem goals_no1 {f : Nat} {acc : List T} {i : Nat} {x : Ins} (h : l[i]? = some x) (h7 : x.o = 7) (hr : rd (i + 1) = none) : goalsR rd l (f + 1) acc i = none := by
  rw [goalsR, h]; dsimp only; rw [if_pos h7, hr]
theorem goals_no2 {f : Nat} {acc : List T} {i j : Nat} {x : Ins} {t : T} (h : l[i]? = some x) (h7 : x.o = 7) (hr : rd (i + 1) = some (t, j)) (hc : ¬ t.callC) : goalsR rd l (f + 1) acc i = none := by
  rw [goalsR, h]; dsimp only; rw [if_pos h7, hr]; exact if_neg hc
theorem goals_go {f : Nat} {acc : List T} {i j : Nat} {x : Ins} {t : T} (h : l[i]? = some x) (h7 : x.o = 7) (hr : rd (i + 1) = some (t, j)) (hc : t.callC) : goalsR rd l (f + 1) acc i = goalsR rd l f (acc ++ [t]) j := by
  rw [goalsR, h]; dsimp only; rw [if_pos h7, hr]; exact if_pos hc
end
theorem TL.put {w w' : World} {B g : Nat} {P : Nat → Prop} {v : Value} {l : List T} {qs : List Q6} (h : TL w B (fun _ => False) P v l qs) (hg : g < B) (hk : ∀ b, b ≠ g → w'.heap[b]? = w.heap[b]?) (hs : w'.heap.size = w.heap.size) : TL w' B (fun _ => False) P v l qs :=
  ⟨h.len, own_keep h.own fun b hb => hk b (by have := (h.own.lt b hb).1; omega), fun i h1 h2 => (h.tp i h1 h2).keep fun b _ _ hS hb => ⟨(hk b (by rcases hS with hS | hS; exact hS.elim; have := (h.lo b hS).1; omega)).trans hb, hS⟩, fun b hP => by rw [hs]; exact h.lo b hP, h.off, h.NB⟩
theorem enc_len {t : T} {gs : List T} (h : t.kinds) (hg : ∀ g ∈ gs, g.kinds) : (encN t gs).length = 2 + t.nodes + gs.length + nodesL gs := by
  obtain ⟨j1, _⟩ := codeT_len t h []
  obtain ⟨i1, _⟩ := codeG_len gs (codeT t []) hg
  simp [encN]
  omega
theorem InsIn.ok {l : List Ins} (h : InsIn l) : InsOk l := ⟨by have := h.few; omega, h.num, fun x hx => (h.nm x hx).1⟩
set_option maxRecDepth 100000 in
set_option maxHeartbeats 8000000 in
theorem rdecode_any {l : List Ins} (hl : InsIn l) {B0 : Nat} {lv : Value} {w : World} (hlv : GRw w B0 lv l) : Calls Tryd.prog 15 #[lv] w fun e w' => DecQ l w e w' := by
  have HLV := Lib.hid hlv
  have HL := Lib.hid hl
  have hfew := hl.few
  obtain ⟨A, c, rfl, _, _, _⟩ := hlv.all
  have BX := Lib.hid (belA (Below.refl w.heap.size w) (Obj.cells #[.int .i64 0, .int .i64 0, .string ⟨#[]⟩, .slice none 0 0] 24))
  have HB0 := Lib.hid (heap_alloc_new w (Obj.cells #[.int .i64 0, .int .i64 0, .string ⟨#[]⟩, .slice none 0 0] 24))
  have RT := fun (i : Nat) (W : World) (hi : i ≤ 30000) (h : GRw W B0 (.slice A l.length c) l) => rterm_any (lv := .slice A l.length c) hl.ok 1000 (Nat.le_refl _) i W hi h
  have RTH := Lib.hid RT
  have C0 : Calls Tryd.prog 34 #[.slice A l.length c, .int .i64 1, .int .i64 1] (w.alloc (Obj.cells #[.int .i64 0, .int .i64 0, .string ⟨#[]⟩, .slice none 0 0] 24)) fun e w' => RtP l 1000 1 (w.alloc (Obj.cells #[.int .i64 0, .int .i64 0, .string ⟨#[]⟩, .slice none 0 0] 24)) e w' := RT 1 _ (by omega) (hlv.below BX.out)
  have CT := Lib.hid C0
  clear hlv hl RT C0
  go_enter Tryd.func15, Tryd.ntmps15
  go_wp2_with fail
  refine CT.out.mono ?_
  rintro e w1 ⟨v, r, t, rfl, ht, hm, hb⟩
  obtain ⟨k0, k1, k2, A0, m0, c0, rfl⟩ := ht.agg
  have B1 := Lib.hid (BX.out.trans (hb.mono (by simp)))
  have XR := Lib.hid ((hb.block w.heap.size (by simp)).trans HB0.out)
  have hs1 : w.heap.size + 1 ≤ w1.heap.size := by have := hb.size; simpa using this
  have hrl := heap_lt XR.out
  have HT := Lib.hid ht
  have HM := Lib.hid hm.out
  obtain ⟨u0, u1, u2, u3⟩ := box4t XR.out
  have zr : ∀ j, w1.frozen? ⟨w.heap.size, j, none⟩ = false := fun j => by simp [World.frozen?, XR.out]
  clear hb ht hm CT
  cases hr : rdT l 1000 1 with
  | none =>
    have hm := HM.out
    rw [hr] at hm
    obtain rfl : r = -1 := hm
    have HD := Lib.hid (dec_no1 (l := l) hr)
    clear hr
    go_wp2_with fail
    have P := box_put4 XR.out (.int .i64 0) (.int .i64 0) (.string ⟨#[]⟩) (.slice none 0 0) rfl
    have P2 := P.2.2.2 _ _ (Nat.le_refl _) B1.out
    have P3 := Lib.hid (Below.alloc (Below.alloc P2 P2.size (Obj.cells #[.int .i64 k0, .int .i64 k1, .string k2, .slice A0 m0 c0] 24)) (by have := P2.size; simp; omega) (Obj.cells #[] 24))
    obtain ⟨p0, p1, p2, p3⟩ := box4t ((Below.heap_alloc _ (Obj.cells #[] 24) _ (by simp; omega)).trans ((Below.heap_alloc _ (Obj.cells #[.int .i64 k0, .int .i64 k1, .string k2, .slice A0 m0 c0] 24) _ (by simp; omega)).trans P.1))
    refine bodyPost_ret (v := .tuple #[.agg #[.int .i64 0, .int .i64 0, .string ⟨#[]⟩, .slice none 0 0], .slice none 0 0, .int .i64 110]) (by simp [results, go_sem, p0, p1, p2, p3]) rfl ?_
    exact decQ_none HD.out P3.out
  | some p =>
    obtain ⟨t', j⟩ := p
    have hm := HM.out
    rw [hr] at hm
    obtain ⟨rfl, rfl⟩ := hm
    have HR := Lib.hid hr
    have hj := rd_le l 1000 1 t j hr
    have HSM := Lib.hid (pd_semi HL.out 1000 1 t j (rd_pd l 1000 1 t j hr))
    clear hr
    have hjn : ¬ (j : Int) < 0 := by omega
    go_wp2_with fail
    have BY := Lib.hid (belA (belA B1.out (Obj.cells #[.int .i64 k0, .int .i64 k1, .string k2, .slice A0 m0 c0] 24)) (Obj.cells #[] 24))
    have BW := Lib.hid (Below.alloc (Below.alloc (Below.refl w1.heap.size w1) (Nat.le_refl _) (Obj.cells #[.int .i64 k0, .int .i64 k1, .string k2, .slice A0 m0 c0] 24)) (by simp) (Obj.cells #[] 24))
    have HT3 := Lib.hid (HT.out.below BW.out)
    have CC := Lib.hid (rcall_any HSM.out.1.short (by have := HSM.out.2; omega) HT3.out)
    refine CC.out.mono ?_
    rintro e w2 ⟨⟨b, rfl, hbc⟩, hb2⟩
    have B2 := Lib.hid (BY.out.trans (hb2.mono (by simp; omega)))
    have XR2 := Lib.hid ((hb2.block w.heap.size (by simp; omega)).trans ((BW.out.block _ hrl).trans XR.out))
    have XH2 := Lib.hid (show w2.heap[w1.heap.size]? = some (.cells #[.int .i64 k0, .int .i64 k1, .string k2, .slice A0 m0 c0] 24 (0, 0)) from (hb2.block w1.heap.size (by simp; omega)).trans ((Below.heap_alloc _ _ _ (by simp)).trans (heap_alloc_new _ _)))
    have XG2 := Lib.hid (show w2.heap[w1.heap.size + 1]? = some (.cells #[] 24 (0, 0)) from (hb2.block (w1.heap.size + 1) (by simp)).trans (heap_at _ _ (by simp)))
    have HT2 := Lib.hid (HT3.out.below hb2)
    have hs2 : w1.heap.size + 2 ≤ w2.heap.size := by have := hb2.size; simpa using this
    obtain ⟨y0, y1, y2, y3⟩ := box4t XR2.out
    have zr2 : ∀ j, w2.frozen? ⟨w.heap.size, j, none⟩ = false := fun j => by simp [World.frozen?, XR2.out]
    have HBC := Lib.hid hbc.out
    have hb2x := Lib.hid hb2
    clear hb2 hbc CC
    cases b with
    | false =>
      have HD := Lib.hid (dec_no2 (l := l) HR.out (fun h => absurd (HBC.out.2 h) (by decide)))
      go_wp2_with fail
      have P := box_put4 XR2.out (.int .i64 0) (.int .i64 0) (.string ⟨#[]⟩) (.slice none 0 0) rfl
      obtain ⟨p0, p1, p2, p3⟩ := box4t P.1
      refine bodyPost_ret (v := .tuple #[.agg #[.int .i64 0, .int .i64 0, .string ⟨#[]⟩, .slice none 0 0], .slice none 0 0, .int .i64 110]) (by simp [results, go_sem, p0, p1, p2, p3]) rfl ?_
      exact decQ_none HD.out (P.2.2.2 _ _ (Nat.le_refl _) B2.out)
    | true =>
      have HCC := Lib.hid (HBC.out.1 rfl)
      have HT0 := Lib.hid (show TP w2 (fun b => w.heap.size + 1 ≤ b ∧ b < w1.heap.size) t (.agg #[.int .i64 k0, .int .i64 k1, .string k2, .slice A0 m0 c0]) from
        ((HT.out.old.below BW.out).more (S' := fun b => w.heap.size + 1 ≤ b ∧ b < w1.heap.size) fun b hb => by simp at hb; exact ⟨hb.1, hb.2⟩).below hb2x.out)
      have TL0 := Lib.hid (show TL w2 (w1.heap.size + 1) (fun _ => False) (fun _ => False) (.slice (some ⟨w1.heap.size + 1, 0, none⟩) 0 0) [] [] from TL.empty (ownsRow_empty _ _ _ _ XG2.out) (fun _ h => h.elim))
      go_wp2_with fail
      go_loopw [6, 7] (fun jv gv wr => ∃ (j' : Nat) (acc : List T) (P : Nat → Prop) (qs : List Q6), jv = .int .i64 (j' : Int) ∧ j' ≤ l.length ∧ Below w.heap.size w wr ∧ wr.heap[w.heap.size]? = some (.cells #[.int .i64 0, .int .i64 0, .string ⟨#[]⟩, .slice none 0 0] 24 (0, 0)) ∧
        wr.heap[w1.heap.size]? = some (.cells #[.int .i64 k0, .int .i64 k1, .string k2, .slice A0 m0 c0] 24 (0, 0)) ∧ TP wr (fun b => w.heap.size + 1 ≤ b ∧ b < w1.heap.size) t (.agg #[.int .i64 k0, .int .i64 k1, .string k2, .slice A0 m0 c0]) ∧ TL wr (w1.heap.size + 1) (fun _ => False) P gv acc qs ∧
        acc.length ≤ j' ∧ Hid ((∀ g ∈ acc, g.semi ∧ g.callC) ∧ sumL acc ≤ j' ∧ ∃ f, l.length ≤ j' + f ∧ goalsR (rdT l 1000) l l.length [] j = goalsR (rdT l 1000) l f acc j')) (fun jv _ _ => l.length - (intOf jv).toNat)
      case atStart => exact ⟨j, [], fun _ => False, [], rfl, hj.2, B2.out, XR2.out, XH2.out, HT0.out, TL0.out, Nat.zero_le _, Lib.hid ⟨(fun _ h => by cases h), (by simp [sumL]), l.length, by omega, rfl⟩⟩
      case round =>
        clear HT0 TL0 B2 XR2 XH2 XG2 HT2 y0 y1 y2 y3 zr2
        obtain ⟨j', acc, P, qs, rfl, hj', hbr, hres, hhd, htr, htl, hal, hK⟩ := hrel
        have BR := Lib.hid hbr
        have XR := Lib.hid hres
        have XH := Lib.hid hhd
        have TR := Lib.hid htr
        have TLR := Lib.hid htl
        obtain ⟨gA, gc, rfl, hgc, hgA, _⟩ := htl.all
        obtain ⟨h0, h1, h2, h3⟩ := box4t hhd
        have hrl2 := heap_lt hres
        have hhl := heap_lt hhd
        have hws := hbr.size
        have hjn2 : ¬ (j' : Int) < 0 := by omega
        have hjp : (0 : Int) ≤ (j' : Int) := by omega
        clear hbr hres hhd htr htl
        by_cases hlt : j' < l.length
        · have hlt' : (j' : Int) < (l.length : Int) := by omega
          obtain ⟨g, og, hAg, hgl, hcell⟩ := grow (HLV.out.below BR.out) rfl hlt
          subst hAg
          obtain ⟨x, hx⟩ : ∃ x, l[j']'hlt = x := ⟨_, rfl⟩
          rw [hx] at hcell
          have d0 : wr.cell? ⟨g, og + j' * 3, none⟩ = some (.int .i64 x.o) := hcell 0 (by omega)
          have HX := Lib.hid (show l[j']? = some x by rw [List.getElem?_eq_getElem hlt, hx])
          clear hcell hx
          cases h7 : (x.o == 7) with
          | true =>
            have H7 := Lib.hid (show x.o = 7 by simpa using h7)
            obtain ⟨f', hf'⟩ : ∃ f', l.length ≤ j' + (f' + 1) ∧ goalsR (rdT l 1000) l l.length [] j = goalsR (rdT l 1000) l (f' + 1) acc j' := by
              obtain ⟨f, q1, q2⟩ := hK.out.2.2
              obtain ⟨f, rfl⟩ : ∃ k, f = k + 1 := ⟨f - 1, by omega⟩
              exact ⟨f, q1, q2⟩
            have HF := Lib.hid hf'
            clear hf'
            have BA := Lib.hid (Below.alloc (Below.refl wr.heap.size wr) (Nat.le_refl _) (Obj.cells #[.int .i64 0, .int .i64 0, .string ⟨#[]⟩, .slice none 0 0] 24))
            have C1 : Calls Tryd.prog 34 #[.slice (some ⟨g, og, none⟩) l.length c, .int .i64 ((j' : Int) + 1), .int .i64 1] (wr.alloc (Obj.cells #[.int .i64 0, .int .i64 0, .string ⟨#[]⟩, .slice none 0 0] 24)) fun e w' => RtP l 1000 (j' + 1) (wr.alloc (Obj.cells #[.int .i64 0, .int .i64 0, .string ⟨#[]⟩, .slice none 0 0] 24)) e w' := by
              have h := RTH.out (j' + 1) (wr.alloc (Obj.cells #[.int .i64 0, .int .i64 0, .string ⟨#[]⟩, .slice none 0 0] 24)) (by omega) (HLV.out.below (BR.out.trans (BA.out.mono hws)))
              rw [show ((j' + 1 : Nat) : Int) = (j' : Int) + 1 by omega] at h
              exact h
            have CI := Lib.hid C1
            clear C1
            go_wp2_with fail
            refine CI.out.mono ?_
            rintro e w5 ⟨v5, r5, t5, rfl, ht5, hm5, hb5⟩
            obtain ⟨e0, e1, e2, A5, m5, c5, rfl⟩ := ht5.agg
            have XA := Lib.hid ((hb5.block wr.heap.size (by simp)).trans (heap_alloc_new wr (Obj.cells #[.int .i64 0, .int .i64 0, .string ⟨#[]⟩, .slice none 0 0] 24)))
            have xf : ∀ j, w5.frozen? ⟨wr.heap.size, j, none⟩ = false := fun j => by simp [World.frozen?, XA.out]
            obtain ⟨v0, v1, v2, v3⟩ := box4t XA.out
            have hs5 : wr.heap.size + 1 ≤ w5.heap.size := by have := hb5.size; simpa using this
            have B5 := Lib.hid (BA.out.trans (hb5.mono (by simp)))
            have P5 := Lib.hid (box_put4 XA.out (.int .i64 e0) (.int .i64 e1) (.string e2) (.slice A5 m5 c5) rfl)
            have B6 := Lib.hid (P5.out.2.2.2 wr.heap.size wr (Nat.le_refl _) B5.out)
            have HT6 := Lib.hid (tp_put XA.out (.int .i64 e0) (.int .i64 e1) (.string e2) (.slice A5 m5 c5) ht5 (fun b hb => by simp at hb; omega))
            have XR6 := Lib.hid ((B6.out.block w.heap.size hrl2).trans XR.out)
            obtain ⟨z0, z1, z2, z3⟩ := box4t P5.out.1
            obtain ⟨y0, y1, y2, y3⟩ := box4t XR6.out
            have zr6 : ∀ j, ((((w5.setCell ⟨wr.heap.size, 0, none⟩ (.int .i64 e0)).setCell ⟨wr.heap.size, 1, none⟩ (.int .i64 e1)).setCell ⟨wr.heap.size, 2, none⟩ (.string e2)).setCell ⟨wr.heap.size, 3, none⟩ (.slice A5 m5 c5)).frozen? ⟨w.heap.size, j, none⟩ = false := fun j => by simp [World.frozen?, XR6.out]
            have HM5 := Lib.hid hm5.out
            clear ht5 hm5 hb5 CI h0 h1 h2 h3 d0
            cases hr : rdT l 1000 (j' + 1) with
            | none =>
              have hm := HM5.out
              rw [hr] at hm
              obtain rfl : r5 = -1 := hm
              have HD := Lib.hid (dec_no3 (l := l) HR.out HCC.out (by rw [HF.out.2]; exact goals_no1 HX.out H7.out hr))
              clear hr
              go_wp2_with fail
              have P := box_put4 XR6.out (.int .i64 0) (.int .i64 0) (.string ⟨#[]⟩) (.slice none 0 0) rfl
              obtain ⟨p0, p1, p2, p3⟩ := box4t P.1
              refine bodyPost_ret (v := .tuple #[.agg #[.int .i64 0, .int .i64 0, .string ⟨#[]⟩, .slice none 0 0], .slice none 0 0, .int .i64 110]) (by simp [results, go_sem, p0, p1, p2, p3]) rfl ?_
              exact decQ_none HD.out (P.2.2.2 _ _ (Nat.le_refl _) (BR.out.trans (B6.out.mono hws)))
            | some p =>
              obtain ⟨t', j2⟩ := p
              have hm := HM5.out
              rw [hr] at hm
              obtain ⟨rfl, rfl⟩ := hm
              have HR2 := Lib.hid hr
              have hj2 := rd_le l 1000 (j' + 1) t5 j2 hr
              have HS5 := Lib.hid (pd_semi HL.out 1000 (j' + 1) t5 j2 (rd_pd l 1000 (j' + 1) t5 j2 hr))
              have CC := Lib.hid (rcall_any HS5.out.1.short (by have := HS5.out.2; omega) HT6.out)
              have hjn3 : ¬ (j2 : Int) < 0 := by omega
              clear hr
              go_wp2_with fail
              refine CC.out.mono ?_
              rintro e w6 ⟨⟨b, rfl, hbc⟩, hb6⟩
              have B7 := Lib.hid (B6.out.trans (hb6.mono B6.out.size))
              have XR7 := Lib.hid ((hb6.block w.heap.size (heap_lt XR6.out)).trans XR6.out)
              have XA7 := Lib.hid ((hb6.block wr.heap.size (heap_lt P5.out.1)).trans P5.out.1)
              have HT7 := Lib.hid (HT6.out.below hb6)
              have HBC := Lib.hid hbc.out
              clear hb6 hbc CC z0 z1 z2 z3 y0 y1 y2 y3 zr6
              obtain ⟨z0, z1, z2, z3⟩ := box4t XA7.out
              obtain ⟨y0, y1, y2, y3⟩ := box4t XR7.out
              have zr7 : ∀ j, w6.frozen? ⟨w.heap.size, j, none⟩ = false := fun j => by simp [World.frozen?, XR7.out]
              have hs7 := B7.out.size
              have hxa7 := heap_lt XA7.out
              cases b with
              | false =>
                have HD := Lib.hid (dec_no3 (l := l) HR.out HCC.out (by rw [HF.out.2]; exact goals_no2 HX.out H7.out HR2.out (fun h => absurd (HBC.out.2 h) (by decide))))
                go_wp2_with fail
                have P := box_put4 XR7.out (.int .i64 0) (.int .i64 0) (.string ⟨#[]⟩) (.slice none 0 0) rfl
                obtain ⟨p0, p1, p2, p3⟩ := box4t P.1
                refine bodyPost_ret (v := .tuple #[.agg #[.int .i64 0, .int .i64 0, .string ⟨#[]⟩, .slice none 0 0], .slice none 0 0, .int .i64 110]) (by simp [results, go_sem, p0, p1, p2, p3]) rfl ?_
                exact decQ_none HD.out (P.2.2.2 _ _ (Nat.le_refl _) (BR.out.trans (B7.out.mono hws)))
              | true =>
                have HC5 := Lib.hid (HBC.out.1 (by first | rfl | trivial))
                have BA7 := Lib.hid (Below.alloc (Below.refl w6.heap.size w6) (Nat.le_refl _) (Obj.cells #[.int .i64 e0, .int .i64 e1, .string e2, .slice A5 m5 c5] 24))
                have TL7 := Lib.hid ((TLR.out.below B7.out).below BA7.out)
                go_wp2_with (at_builtin; go_must (refine wpList_append_at _ rfl _ _ _ rfl elTerm (w1.heap.size + 1) _ acc.length (qCells qs) rfl TL7.out.own (some ⟨w6.heap.size, 0, none⟩) 1 1 (qCells [⟨e0, e1, e2, A5, m5, c5⟩]) rfl (fun h => by cases h) (Nat.le_refl _) (by rw [qCells_length]; rfl) (fun _ => ⟨_, 0, rfl, fun j u hu => ?_⟩) (qCells_small _) (by omega) (by unfold maxLen; omega) (by simp; omega) ?_))
                · rw [Nat.zero_add, cell_of_row _ _ j _ _ _ (heap_alloc_new _ _)]
                  simpa [qCells, Q6.cells] using hu
                intro v8 w8 hown8 hg8 hat8
                have hol := TLR.out.own.lt
                have TL8 := Lib.hid (TL7.out.app (P2 := fun b => wr.heap.size + 1 ≤ b ∧ b < w6.heap.size) (l2 := [t5]) (q2 := [⟨e0, e1, e2, A5, m5, c5⟩]) rfl hown8 hg8 (by simpa using hat8) (fun i h h' => by
                    obtain rfl : i = 0 := by simp at h; omega
                    exact ((HT7.out.old.below BA7.out).more fun b hb => .inr (by have h9 := hb.1; simp at h9; exact ⟨h9, hb.2⟩))) (fun b hb => ⟨by have := heap_lt XH.out; omega, by simp; omega⟩) (fun g hg hP => by have := (hol g hg).2; omega))
                have B8 := Lib.hid (Below.grown ((BR.out.trans (B7.out.mono hws)).trans (BA7.out.mono (by omega))) hg8 (by simp; omega) (fun k hk => by have := (hol k hk).1; omega))
                have hold : ∀ b o, b < w1.heap.size + 1 → wr.heap[b]? = some o → w8.heap[b]? = some o := fun b o hb ho => by
                  have hbl : b < wr.heap.size := by
                    rcases Nat.lt_or_ge b wr.heap.size with h9 | h9
                    · exact h9
                    · rw [Array.getElem?_eq_none h9] at ho; cases ho
                  rw [hg8.block b (by simp; omega) (fun e => by have := (hol b e.symm).1; omega), BA7.out.block b (by omega), B7.out.block b hbl, ho]
                have XR8 := Lib.hid (hold _ _ (by omega) XR.out)
                have XH8 := Lib.hid (hold _ _ (by omega) XH.out)
                have TR8 := Lib.hid (TR.out.keep (S' := fun b => w.heap.size + 1 ≤ b ∧ b < w1.heap.size) fun b cs f hS hb => ⟨hold b _ (by omega) hb, hS⟩)
                have KN := Lib.hid (show (∀ g ∈ acc ++ [t5], g.semi ∧ g.callC) ∧ sumL (acc ++ [t5]) ≤ j2 ∧ ∃ f, l.length ≤ j2 + f ∧ goalsR (rdT l 1000) l l.length [] j = goalsR (rdT l 1000) l f (acc ++ [t5]) j2 from
                  ⟨fun g hg => by
                    rcases List.mem_append.1 hg with hg | hg
                    · exact hK.out.1 g hg
                    · rw [List.mem_singleton.1 hg]; exact ⟨HS5.out.1, HC5.out⟩, by
                    have h1 := hK.out.2.1
                    have h2 := HS5.out.2
                    unfold sumL at h1 ⊢
                    rw [List.map_append, List.sum_append]
                    simp
                    omega, f', by have := HF.out.1; omega, by rw [HF.out.2]; exact goals_go HX.out H7.out HR2.out HC5.out⟩)
                have hal8 : (acc ++ [t5]).length ≤ j2 := by rw [List.length_append]; simp; omega
                clear hown8 hg8 hat8 hold
                go_wp2_with fail
                go_roundw
                case rel => exact ⟨j2, acc ++ [t5], _, _, rfl, hj2.2, B8.out, XR8.out, XH8.out, TR8.out, TL8.out, hal8, KN⟩
                case measure => simp [intOf]; omega
          | false =>
            have HG := Lib.hid (show goalsR (rdT l 1000) l l.length [] j = some (acc, j') by
              obtain ⟨f, _, h2⟩ := hK.out.2.2
              rw [h2]
              exact goals_end fun y hy => by rw [HX.out] at hy; injection hy with hy; subst hy; simpa using h7)
            have HOK := Lib.hid (show t.ok ∧ (∀ g ∈ acc, g.ok) ∧ sumL acc ≤ 6000 from ⟨call_ok HSM.out.1 HCC.out, fun g hg => call_ok (hK.out.1 g hg).1 (hK.out.1 g hg).2, by have := hK.out.2.1; omega⟩)
            have HLE := Lib.hid (enc_len HOK.out.1.1.kinds (fun g hg => (HOK.out.2.1 g hg).1.kinds))
            have CE := Lib.hid (rencode_any HOK.out.1 HOK.out.2.1 TR.out TLR.out (by have := HOK.out.2.2; exact Nat.le_trans this (by omega)) (by omega))
            go_wp2_with fail
            refine CE.out.mono ?_
            rintro e w5 ⟨ev, rfl, he, hk⟩
            have XR5 := Lib.hid ((hk.low.block w.heap.size hrl2).trans XR.out)
            have XH5 := Lib.hid ((hk.low.block w1.heap.size hhl).trans XH.out)
            have B5 := Lib.hid (BR.out.trans (hk.low.mono hws))
            have TR5 := Lib.hid (TR.out.below hk.low)
            have TL5 := Lib.hid (TLR.out.below hk.low)
            have CQ := Lib.hid (isame_any w5 he.g (HLV.out.below B5.out) (by have := HLE.out; have h9 := HOK.out.1.2; have h8 : nodesL acc ≤ 6000 := HOK.out.2.2; omega))
            clear he hk CE h0 h1 h2 h3
            go_wp2_with fail
            refine CQ.out.mono ?_
            rintro e w6 ⟨⟨rb, rfl, hrb⟩, hb6⟩
            have XR6 := Lib.hid ((hb6.block w.heap.size (heap_lt XR5.out)).trans XR5.out)
            have XH6 := Lib.hid ((hb6.block w1.heap.size (heap_lt XH5.out)).trans XH5.out)
            have B6 := Lib.hid (B5.out.trans (hb6.mono B5.out.size))
            have TR6 := Lib.hid (TR5.out.below hb6)
            have TL6 := Lib.hid (TL5.out.below hb6)
            have HRB := Lib.hid hrb
            obtain ⟨y0, y1, y2, y3⟩ := box4t XR6.out
            obtain ⟨h0, h1, h2, h3⟩ := box4t XH6.out
            have zr6 : ∀ j, w6.frozen? ⟨w.heap.size, j, none⟩ = false := fun j => by simp [World.frozen?, XR6.out]
            have hr6l := heap_lt XR6.out
            have hh6l := heap_lt XH6.out
            clear hb6 hrb CQ
            cases rb with
            | false =>
              have HD := Lib.hid (dec_no4 HR.out HCC.out HG.out (fun h => absurd (HRB.out.2 h) (by decide)))
              go_wp2_with fail
              have P := box_put4 XR6.out (.int .i64 0) (.int .i64 0) (.string ⟨#[]⟩) (.slice none 0 0) rfl
              obtain ⟨p0, p1, p2, p3⟩ := box4t P.1
              refine bodyPost_ret (v := .tuple #[.agg #[.int .i64 0, .int .i64 0, .string ⟨#[]⟩, .slice none 0 0], .slice none 0 0, .int .i64 110]) (by simp [results, go_sem, p0, p1, p2, p3]) rfl ?_
              exact decQ_none HD.out (P.2.2.2 _ _ (Nat.le_refl _) B6.out)
            | true =>
              have HD := Lib.hid (dec_yes HR.out HCC.out HG.out (HRB.out.1 (by first | rfl | trivial)))
              go_wp2_with fail
              have P := box_put4 XR6.out (.int .i64 k0) (.int .i64 k1) (.string k2) (.slice A0 m0 c0) rfl
              obtain ⟨p0, p1, p2, p3⟩ := box4t P.1
              refine bodyPost_ret (v := .tuple #[.agg #[.int .i64 k0, .int .i64 k1, .string k2, .slice A0 m0 c0], .slice gA acc.length gc, .int .i64 0]) (by simp [results, go_sem, p0, p1, p2, p3]) rfl ?_
              refine ⟨_, _, 0, rfl, P.2.2.2 _ _ (Nat.le_refl _) B6.out, Lib.hid ?_⟩
              rw [HD.out]
              exact ⟨rfl, HOK.out.1, HOK.out.2.1, HOK.out.2.2, w1.heap.size + 1, _, _, _, (fun b hb => by rw [P.2.1]; omega), (fun b hb => by have := hb.2; omega), TR6.out.keep (fun b _ _ hS hb => ⟨(P.2.2.1 b (by omega)).trans hb, hS⟩), TL6.out.put (by omega) P.2.2.1 P.2.1⟩
        · have hlt' : ¬ (j' : Int) < (l.length : Int) := by omega
          have HG := Lib.hid (show goalsR (rdT l 1000) l l.length [] j = some (acc, j') by
            obtain ⟨f, _, h2⟩ := hK.out.2.2
            rw [h2]
            exact goals_end fun y hy => by rw [List.getElem?_eq_none (by omega)] at hy; cases hy)
          have HOK := Lib.hid (show t.ok ∧ (∀ g ∈ acc, g.ok) ∧ sumL acc ≤ 6000 from ⟨call_ok HSM.out.1 HCC.out, fun g hg => call_ok (hK.out.1 g hg).1 (hK.out.1 g hg).2, by have := hK.out.2.1; omega⟩)
          have HLE := Lib.hid (enc_len HOK.out.1.1.kinds (fun g hg => (HOK.out.2.1 g hg).1.kinds))
          have CE := Lib.hid (rencode_any HOK.out.1 HOK.out.2.1 TR.out TLR.out (by have := HOK.out.2.2; exact Nat.le_trans this (by omega)) (by omega))
          go_wp2_with fail
          refine CE.out.mono ?_
          rintro e w5 ⟨ev, rfl, he, hk⟩
          have XR5 := Lib.hid ((hk.low.block w.heap.size hrl2).trans XR.out)
          have XH5 := Lib.hid ((hk.low.block w1.heap.size hhl).trans XH.out)
          have B5 := Lib.hid (BR.out.trans (hk.low.mono hws))
          have TR5 := Lib.hid (TR.out.below hk.low)
          have TL5 := Lib.hid (TLR.out.below hk.low)
          have CQ := Lib.hid (isame_any w5 he.g (HLV.out.below B5.out) (by have := HLE.out; have h9 := HOK.out.1.2; have h8 : nodesL acc ≤ 6000 := HOK.out.2.2; omega))
          clear he hk CE h0 h1 h2 h3
          go_wp2_with fail
          refine CQ.out.mono ?_
          rintro e w6 ⟨⟨rb, rfl, hrb⟩, hb6⟩
          have XR6 := Lib.hid ((hb6.block w.heap.size (heap_lt XR5.out)).trans XR5.out)
          have XH6 := Lib.hid ((hb6.block w1.heap.size (heap_lt XH5.out)).trans XH5.out)
          have B6 := Lib.hid (B5.out.trans (hb6.mono B5.out.size))
          have TR6 := Lib.hid (TR5.out.below hb6)
          have TL6 := Lib.hid (TL5.out.below hb6)
          have HRB := Lib.hid hrb
          obtain ⟨y0, y1, y2, y3⟩ := box4t XR6.out
          obtain ⟨h0, h1, h2, h3⟩ := box4t XH6.out
          have zr6 : ∀ j, w6.frozen? ⟨w.heap.size, j, none⟩ = false := fun j => by simp [World.frozen?, XR6.out]
          have hr6l := heap_lt XR6.out
          have hh6l := heap_lt XH6.out
          clear hb6 hrb CQ
          cases rb with
          | false =>
            have HD := Lib.hid (dec_no4 HR.out HCC.out HG.out (fun h => absurd (HRB.out.2 h) (by decide)))
            go_wp2_with fail
            have P := box_put4 XR6.out (.int .i64 0) (.int .i64 0) (.string ⟨#[]⟩) (.slice none 0 0) rfl
            obtain ⟨p0, p1, p2, p3⟩ := box4t P.1
            refine bodyPost_ret (v := .tuple #[.agg #[.int .i64 0, .int .i64 0, .string ⟨#[]⟩, .slice none 0 0], .slice none 0 0, .int .i64 110]) (by simp [results, go_sem, p0, p1, p2, p3]) rfl ?_
            exact decQ_none HD.out (P.2.2.2 _ _ (Nat.le_refl _) B6.out)
          | true =>
            have HD := Lib.hid (dec_yes HR.out HCC.out HG.out (HRB.out.1 (by first | rfl | trivial)))
            go_wp2_with fail
            have P := box_put4 XR6.out (.int .i64 k0) (.int .i64 k1) (.string k2) (.slice A0 m0 c0) rfl
            obtain ⟨p0, p1, p2, p3⟩ := box4t P.1
            refine bodyPost_ret (v := .tuple #[.agg #[.int .i64 k0, .int .i64 k1, .string k2, .slice A0 m0 c0], .slice gA acc.length gc, .int .i64 0]) (by simp [results, go_sem, p0, p1, p2, p3]) rfl ?_
            refine ⟨_, _, 0, rfl, P.2.2.2 _ _ (Nat.le_refl _) B6.out, Lib.hid ?_⟩
            rw [HD.out]
            exact ⟨rfl, HOK.out.1, HOK.out.2.1, HOK.out.2.2, w1.heap.size + 1, _, _, _, (fun b hb => by rw [P.2.1]; omega), (fun b hb => by have := hb.2; omega), TR6.out.keep (fun b _ _ hS hb => ⟨(P.2.2.1 b (by omega)).trans hb, hS⟩), TL6.out.put (by omega) P.2.2.1 P.2.1⟩
end Go.Proofs.YtlgeepjlnjlgdaaDoor
