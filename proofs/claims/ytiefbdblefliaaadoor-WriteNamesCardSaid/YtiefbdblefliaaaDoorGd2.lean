/- The walks through write.Good and its closure. -/
import Derived.Test.YtiefbdblefliaaaDoorGd1
import Derived.Test.YtiefbdblefliaaaDoorGj
namespace Go.Proofs.YtiefbdblefliaaaDoor
open Go.RowKit

/-- The closure: where its count and itself lie. -/
def fnG (Lb Fb : Nat) : Value := .func (.func 22) #[] #[.pointer (some ⟨Lb, 0, none⟩), .pointer (some ⟨Fb, 0, none⟩)]
/-- The closure's boxes: what is left. -/
structure Gc (w : World) (Lb Fb : Nat) (left : Int) : Prop where
  bl : w.heap[Lb]? = some (.cells #[.int .i64 left] 3 (0, 0))
  bf : w.heap[Fb]? = some (.cells #[fnG Lb Fb] 38 (0, 0))
/-- All stands but the box of the count. -/
structure Kg (Lb B : Nat) (w w' : World) : Prop where
  low : Below B w w'
  keep : ∀ b, b < w.heap.size → b ≠ Lb → w'.heap[b]? = w.heap[b]?
theorem Kg.of {Lb B : Nat} {w w' : World} (h : Below w.heap.size w w') (hB : B ≤ w.heap.size) : Kg Lb B w w' := ⟨h.mono hB, fun b hb _ => h.block b hb⟩
theorem Kg.trans {Lb B : Nat} {w w1 w2 : World} (h : Kg Lb B w w1) (k : Kg Lb B w1 w2) : Kg Lb B w w2 := ⟨h.low.trans k.low, fun b hb hn => (k.keep b (Nat.lt_of_lt_of_le hb h.low.size) hn).trans (h.keep b hb hn)⟩
theorem Kg.set {Lb B : Nat} {w : World} (hB : B ≤ Lb) (v : Value) : Kg Lb B w (w.setCell ⟨Lb, 0, none⟩ v) := ⟨(Below.refl _ _).setCell (p := ⟨Lb, 0, none⟩) hB v, fun _ _ hn => Below.heap_setCell _ _ _ _ hn⟩
theorem Kg.gt {Lb B : Nat} {w w' : World} (h : Kg Lb B w w') {S : Nat} (hS : S ≤ B) {t : T} {v : Value} (ht : GT w S t v) : GT w' S t v := ht.low hS h.low
theorem Gc.below {Lb Fb : Nat} {left : Int} {w w' : World} (h : Gc w Lb Fb left) (hb : Below w.heap.size w w') : Gc w' Lb Fb left := ⟨(hb.block _ (heap_lt h.bl)).trans h.bl, (hb.block _ (heap_lt h.bf)).trans h.bf⟩
/-- What the closure answers. -/
def FitsR (t : T) (left : Int) (b : Bool) (left' : Int) : Prop := (b = true ↔ t.legal ∧ (t.sizeK : Int) ≤ left) ∧ (b = true → left' = left - t.sizeK)
def FitP (t : T) (left : Int) (Lb Fb B : Nat) (w : World) (e : Ending) (w' : World) : Prop := ∃ b left', e = .returned (.bool b) ∧ Gc w' Lb Fb left' ∧ left' ≤ left ∧ Hid (FitsR t left b left') ∧ Kg Lb B w w'
theorem fits_no {t : T} {left left' : Int} (h : ¬ (t.legal ∧ (t.sizeK : Int) ≤ left)) : FitsR t left false left' := ⟨⟨(fun h => by cases h), fun h2 => absurd h2 h⟩, fun h => by cases h⟩
theorem fits_yes {t : T} {left : Int} {left' : Int} (h : t.legal) (h2 : (t.sizeK : Int) ≤ left) (h3 : left' = left - t.sizeK) : FitsR t left true left' := ⟨⟨fun _ => ⟨h, h2⟩, fun _ => rfl⟩, fun _ => h3⟩
theorem sizeK_leaf {k n : Int} {s : ByteArray} {m : Nat} {a : Nat → T} (h : k ≠ 4) : (T.mk k n s m a).sizeK = 1 := by simp only [T.sizeK]; rw [if_neg h]
theorem sizeK_cmp {n : Int} {s : ByteArray} {m : Nat} {a : Nat → T} : (T.mk 4 n s m a).sizeK = 1 + sumTo m fun i => (a i).sizeK := by simp [T.sizeK]
theorem gc_set {w : World} {Lb Fb : Nat} {left : Int} (h : Gc w Lb Fb left) (hn : Lb ≠ Fb) (l2 : Int) : Gc (w.setCell ⟨Lb, 0, none⟩ (.int .i64 l2)) Lb Fb l2 :=
  ⟨by simpa using blk_set h.bl 0 (.int .i64 l2), (Below.heap_setCell _ _ _ _ fun e => hn e.symm).trans h.bf⟩
set_option maxRecDepth 100000 in
set_option maxHeartbeats 8000000 in
theorem fits_any : ∀ t : T, t.short → t.nodes ≤ 100000 → ∀ (Lb Fb B : Nat) (left : Int) (S : Nat) (v : Value) (w : World), S ≤ B → B ≤ Lb → Lb ≠ Fb → left ≤ 100000 → -100000 ≤ left → Gc w Lb Fb left → GT w S t v →
    Calls Tryd.prog 22 #[v, .pointer (some ⟨Lb, 0, none⟩), .pointer (some ⟨Fb, 0, none⟩)] w fun e w' => FitP t left Lb Fb B w e w' := by
  intro t
  induction t with
  | nil => intro _ _ _ _ _ _ S v w _ _ _ _ _ _ hv; exact hv.tin.elim
  | mk k n s m a ih =>
    intro hsh hnd Lb Fb B left S v w hSB hB hLF hle hge hG hv
    obtain ⟨k', n', s', A, m', c, rfl⟩ := hv.agg
    obtain ⟨e0, e1, e2, rfl, hmc, hA, _⟩ := hv.args
    injection e0 with _ e0
    injection e1 with _ e1
    injection e2 with e2
    subst e0; subst e1; subst e2
    have HV := Lib.hid hv
    have HS := Lib.hid hsh
    have IH := Lib.hid ih
    have HG := Lib.hid hG
    have hs4 : s'.size ≤ 4096 := hsh.1
    have c0 := cell_of_row w Lb 0 _ _ _ hG.bl
    have hll := heap_lt hG.bl
    have hlf := heap_lt hG.bf
    have lz : ∀ i, w.frozen? ⟨Lb, i, none⟩ = false := fun i => by simp [World.frozen?, HG.out.bl]
    clear hv hsh ih hA hG
    obtain ⟨L, rfl⟩ : ∃ L : Int, left = L + 1 := ⟨left - 1, by omega⟩
    have hL1 : L + 1 - 1 = L := by omega
    have ho4 := World.frozen?
    clear ho4
    have GS := Lib.hid (gc_set HG.out hLF L)
    have KS := Lib.hid (Kg.set (w := w) hB (.int .i64 L))
    have BS := Lib.hid (Below.alloc (Below.refl (w.setCell ⟨Lb, 0, none⟩ (.int .i64 L)).heap.size (w.setCell ⟨Lb, 0, none⟩ (.int .i64 L))) (Nat.le_refl _) (Obj.cells #[.int .i64 k', .int .i64 n', .string s', .slice A m' c] 24))
    have G1 := Lib.hid (GS.out.below BS.out)
    have K1 := Lib.hid (KS.out.trans (Kg.of BS.out (by simp; omega)))
    have CQ := Lib.hid (pquote_any s' hs4 ((w.setCell ⟨Lb, 0, none⟩ (.int .i64 L)).alloc (Obj.cells #[.int .i64 k', .int .i64 n', .string s', .slice A m' c] 24)))
    have FIN := Lib.hid (show ∀ w1, Below ((w.setCell ⟨Lb, 0, none⟩ (.int .i64 L)).alloc (Obj.cells #[.int .i64 k', .int .i64 n', .string s', .slice A m' c] 24)).heap.size ((w.setCell ⟨Lb, 0, none⟩ (.int .i64 L)).alloc (Obj.cells #[.int .i64 k', .int .i64 n', .string s', .slice A m' c] 24)) w1 → ∀ b, FitsR (.mk k' n' s' m' a) (L + 1) b L → FitP (.mk k' n' s' m' a) (L + 1) Lb Fb B w (.returned (.bool b)) w1 from
      fun w1 h b hf => ⟨b, L, rfl, G1.out.below h, by omega, Lib.hid hf, K1.out.trans (Kg.of h (by simp; omega))⟩)
    by_cases h0 : L < 0
    · have P0 := Lib.hid (FIN.out _ (Below.refl _ _) false (fits_no fun h => by have := (T.mk k' n' s' m' a).sizeK_pos; omega))
      go_enter Tryd.func22, Tryd.ntmps22
      go_wp2_with fail
      go_ret
      exact P0.out
    have hL0 : 0 ≤ L := by omega
    by_cases h1 : k' = 1
    · subst h1
      by_cases hn : 0 ≤ n'
      · have P := Lib.hid (FIN.out _ (Below.refl _ _) true (fits_yes (legal_var.2 hn) (by rw [sizeK_leaf (by decide)]; omega) (by rw [sizeK_leaf (by decide)]; omega)))
        go_enter Tryd.func22, Tryd.ntmps22
        go_wp2_with fail
        go_ret
        exact P.out
      · have P := Lib.hid (FIN.out _ (Below.refl _ _) false (fits_no fun h => absurd (legal_var.1 h.1) hn))
        go_enter Tryd.func22, Tryd.ntmps22
        go_wp2_with fail
        go_ret
        exact P.out
    by_cases h2 : k' = 2
    · subst h2
      have P := Lib.hid (FIN.out _ (Below.refl _ _) true (fits_yes (.inr (.inl rfl)) (by rw [sizeK_leaf (by decide)]; omega) (by rw [sizeK_leaf (by decide)]; omega)))
      go_enter Tryd.func22, Tryd.ntmps22
      go_wp2_with fail
      go_ret
      exact P.out
    by_cases h3 : k' = 3
    · subst h3
      cases hq : ((quoteN s').toList == []) with
      | true =>
        have P := Lib.hid (fun w1 hb => FIN.out w1 hb false (fits_no fun h => legal_atom.1 h.1 (quote_yes hq)))
        go_enter Tryd.func22, Tryd.ntmps22
        go_wp2_with fail
        refine CQ.out.mono ?_
        rintro e w1 ⟨rfl, hb1⟩
        have P1 := Lib.hid (P.out w1 hb1)
        clear hb1
        go_wp2_with fail
        go_ret
        exact P1.out
      | false =>
        have P := Lib.hid (fun w1 hb => FIN.out w1 hb true (fits_yes (legal_atom.2 (quote_no hq)) (by rw [sizeK_leaf (by decide)]; omega) (by rw [sizeK_leaf (by decide)]; omega)))
        go_enter Tryd.func22, Tryd.ntmps22
        go_wp2_with fail
        refine CQ.out.mono ?_
        rintro e w1 ⟨rfl, hb1⟩
        have P1 := Lib.hid (P.out w1 hb1)
        clear hb1
        go_wp2_with fail
        go_ret
        exact P1.out
    by_cases h4 : k' = 4
    · subst h4
      cases hq : ((quoteN s').toList == []) with
      | true =>
        have P := Lib.hid (fun w1 hb => FIN.out w1 hb false (fits_no fun h => (legal_cmp h.1).1 (quote_yes hq)))
        go_enter Tryd.func22, Tryd.ntmps22
        go_wp2_with fail
        refine CQ.out.mono ?_
        rintro e w1 ⟨rfl, hb1⟩
        have P1 := Lib.hid (P.out w1 hb1)
        clear hb1
        go_wp2_with fail
        go_ret
        exact P1.out
      | false =>
        have HQ := Lib.hid (quote_no hq)
        have HX1 := Lib.hid (show ∀ w1, Below ((w.setCell ⟨Lb, 0, none⟩ (.int .i64 L)).alloc (Obj.cells #[.int .i64 4, .int .i64 n', .string s', .slice A m' c] 24)).heap.size ((w.setCell ⟨Lb, 0, none⟩ (.int .i64 L)).alloc (Obj.cells #[.int .i64 4, .int .i64 n', .string s', .slice A m' c] 24)) w1 → w1.heap[w.heap.size]? = some (.cells #[.int .i64 4, .int .i64 n', .string s', .slice A m' c] 24 (0, 0)) from
          fun w1 h => (h.block w.heap.size (by simp)).trans (heap_at _ _ (by simp)))
        by_cases hm0 : m' = 0
        · subst hm0
          have P := Lib.hid (fun w1 hb => FIN.out w1 hb false (fits_no fun h => absurd (legal_cmp h.1).2 (by omega)))
          go_enter Tryd.func22, Tryd.ntmps22
          go_wp2_with fail
          refine CQ.out.mono ?_
          rintro e w1 ⟨rfl, hb1⟩
          have P1 := Lib.hid (P.out w1 hb1)
          obtain ⟨x0, x1, x2, x3⟩ := box4t (HX1.out w1 hb1)
          clear hb1
          go_wp2_with fail
          go_ret
          exact P1.out
        have hm0' : ((m' : Int) == 0) = false := by simp; omega
        have hmm : m' ≤ 100000 := by have := HV.out.tin; have h9 := this.open_; obtain ⟨_, _, _, hT⟩ := h9; have := hT.fewN; simp only [T.nodes] at hnd; omega
        have HND := Lib.hid (show ∀ i, i < m' → (a i).nodes ≤ 100000 from fun i hi => by
          have h1 := sumTo_one (f := fun i => (a i).nodes) hi
          simp only [T.nodes] at hnd
          omega)
        clear hnd
        go_enter Tryd.func22, Tryd.ntmps22
        go_wp2_with fail
        refine CQ.out.mono ?_
        rintro e w1 ⟨rfl, hb1⟩
        have G2 := Lib.hid (G1.out.below hb1)
        have K2 := Lib.hid (K1.out.trans (Kg.of hb1 (by simp; omega)))
        obtain ⟨x0, x1, x2, x3⟩ := box4t (HX1.out w1 hb1)
        clear hb1
        go_wp2_with fail
        go_loopw [41] (fun iv wr => ∃ (i : Nat) (r : Int), iv = .int .i64 (i : Int) ∧ i ≤ m' ∧ r ≤ L ∧ 0 ≤ r ∧ Gc wr Lb Fb r ∧ Hid ((∀ q, q < i → (a q).legal) ∧ r = L - (sumTo i fun q => (a q).sizeK : Nat)) ∧ Kg Lb B w wr) (fun iv _ => m' - (intOf iv).toNat)
        case atStart => exact ⟨0, L, rfl, Nat.zero_le _, Int.le_refl _, hL0, G2.out, Lib.hid ⟨fun _ h => absurd h (by omega), by simp [sumTo]⟩, K2.out⟩
        case round =>
          clear G2 K2 x0 x1 x2 x3
          obtain ⟨i, r, rfl, hi, hrL, hr0, hg, hR, hk⟩ := hrel
          have GR := Lib.hid hg
          have KR := Lib.hid hk
          have hws := hk.low.size
          have y0 := cell_of_row wr Fb 0 _ _ _ hg.bf
          have hfl := heap_lt hg.bf
          clear hg hk
          by_cases him : i < m'
          · have him' : (i : Int) < (m' : Int) := by omega
            obtain ⟨_, _, _, _, _, _, hargs⟩ := (KR.out.gt hSB HV.out).args
            obtain ⟨g, o, k0, k1, k2, A0, m0, c1, rfl, _, hgl, d0, d1, d2, d3, ht⟩ := hargs i him
            have BA := Lib.hid (belA (Below.refl wr.heap.size wr) (Obj.cells #[.int .i64 k0, .int .i64 k1, .string k2, .slice A0 m0 c1] 24))
            have CI := Lib.hid (IH.out i (HS.out.2 i him) (HND.out i him) Lb Fb B r S _ (wr.alloc (Obj.cells #[.int .i64 k0, .int .i64 k1, .string k2, .slice A0 m0 c1] 24)) hSB hB hLF (by omega) (by omega) (GR.out.below BA.out) (ht.below BA.out))
            have y1 : (wr.alloc (Obj.cells #[.int .i64 k0, .int .i64 k1, .string k2, .slice A0 m0 c1] 24)).cell? ⟨Fb, 0, none⟩ = some (fnG Lb Fb) := cell_of_row _ Fb 0 _ _ _ ((GR.out.below BA.out).bf)
            clear hargs ht
            unfold fnG at y0 y1
            go_wp2_with fail
            refine CI.out.mono ?_
            rintro e w5 ⟨b, r', rfl, hg5, hle5, hf5, hk5⟩
            have G5 := Lib.hid hg5
            have F5 := Lib.hid hf5.out
            have K5 := Lib.hid ((KR.out.trans (Kg.of BA.out (by omega))).trans hk5)
            clear hg5 hk5 hf5 CI
            cases b with
            | false =>
              have P := Lib.hid (show FitP (.mk 4 n' s' m' a) (L + 1) Lb Fb B w (.returned (.bool false)) w5 from ⟨false, r', rfl, G5.out, by omega, Lib.hid (fits_no fun h => by
                obtain ⟨q1, q2⟩ := h
                have hl := q1
                rcases hl with q | q | q | q
                · exact absurd q.1 (by decide)
                · exact absurd q (by decide)
                · exact absurd q.1 (by decide)
                · rw [sizeK_cmp] at q2
                  have h9 := sumTo_upto (fun q => (a q).sizeK) (show i + 1 ≤ m' by omega)
                  simp only [sumTo] at h9
                  have hn : ¬ ((a i).legal ∧ ((a i).sizeK : Int) ≤ r) := fun h => by have := F5.out.1.2 h; cases this
                  exact hn ⟨q.2.2.2 i him, by have := hR.out.2; omega⟩), K5.out⟩)
              go_wp2_with fail
              go_ret
              exact P.out
            | true =>
              have HR5 := Lib.hid (show (∀ q, q < i + 1 → (a q).legal) ∧ r' = L - (sumTo (i + 1) fun q => (a q).sizeK : Nat) by
                have h1 := F5.out.1.1 rfl
                have h2 := F5.out.2 rfl
                refine ⟨fun q hq => ?_, ?_⟩
                · rcases Nat.lt_or_ge q i with h4 | h4
                  · exact hR.out.1 q h4
                  · obtain rfl : q = i := by omega
                    exact h1.1
                · simp only [sumTo]; have := hR.out.2; omega)
              have hr5 : 0 ≤ r' := by have h1 := F5.out.1.1 rfl; have h2 := F5.out.2 rfl; omega
              go_wp2_with fail
              go_roundw
              case rel => exact ⟨i + 1, r', by go_num, him, by omega, hr5, G5.out, HR5, K5.out⟩
              case measure => simp [intOf]; omega
          · obtain rfl : i = m' := by omega
            have P := Lib.hid (show FitP (.mk 4 n' s' i a) (L + 1) Lb Fb B w (.returned (.bool true)) wr from ⟨true, r, rfl, GR.out, by omega, Lib.hid (fits_yes (.inr (.inr (.inr ⟨rfl, HQ.out, by omega, hR.out.1⟩))) (by rw [sizeK_cmp]; have := hR.out.2; omega) (by rw [sizeK_cmp]; have := hR.out.2; omega)), KR.out⟩)
            go_wp2_with fail
            go_ret
            exact P.out
    · have P := Lib.hid (FIN.out _ (Below.refl _ _) false (fits_no fun h => legal_no h1 h2 h3 h4 h.1))
      have h1' : (k' == 1) = false := by simpa using h1
      have h2' : (k' == 2) = false := by simpa using h2
      have h3' : (k' == 3) = false := by simpa using h3
      have h4' : (k' == 4) = false := by simpa using h4
      clear h1 h2 h3 h4
      go_enter Tryd.func22, Tryd.ntmps22
      go_wp2_with fail
      go_ret
      exact P.out
set_option maxRecDepth 100000 in
set_option maxHeartbeats 4000000 in
theorem pgood_any {t : T} (hs : t.short) (hn : t.nodes ≤ 100000) {S : Nat} {v : Value} {w : World} (hv : GT w S t v) :
    Calls Tryd.prog 14 #[v] w fun e w' => (∃ b, e = .returned (.bool b) ∧ Hid (b = true ↔ t.goodW)) ∧ Below w.heap.size w w' := by
  obtain ⟨k, n, s, A, m, c, rfl⟩ := hv.agg
  have SF : ∀ (a : Addr) (cs : Array Value) (m : Mode) (W : World), (store a (.func (.func 22) #[] cs) m).run Tryd.prog W = stored Tryd.prog W a (.func (.func 22) #[] cs) m := fun a cs m W => run_store _ W a _ m rfl
  have BX := Lib.hid (belA (belA (belA (Below.refl w.heap.size w) (Obj.cells #[.int .i64 k, .int .i64 n, .string s, .slice A m c] 24)) (Obj.cells #[.int .i64 1000] 3)) (Obj.cells #[fnG (w.heap.size + 1) (w.heap.size + 2)] 38))
  have G := Lib.hid (show Gc (((w.alloc (Obj.cells #[.int .i64 k, .int .i64 n, .string s, .slice A m c] 24)).alloc (Obj.cells #[.int .i64 1000] 3)).alloc (Obj.cells #[fnG (w.heap.size + 1) (w.heap.size + 2)] 38)) (w.heap.size + 1) (w.heap.size + 2) 1000 from
    ⟨(Below.heap_alloc _ _ _ (by simp)).trans (heap_at _ _ (by simp)), heap_at _ _ (by simp)⟩)
  have CF := Lib.hid (fits_any t hs hn (w.heap.size + 1) (w.heap.size + 2) (w.heap.size) 1000 S _ _ hv.sz (by omega) (by omega) (by omega) (by omega) G.out (hv.below BX.out))
  have HB := Lib.hid BX.out
  clear hv
  go_enter Tryd.func14, Tryd.ntmps14
  unfold fnG at CF
  go_wp2_with fail
  refine CF.out.mono ?_
  rintro e w5 ⟨b, r', rfl, _, _, hf, hk⟩
  have P := Lib.hid (show b = true ↔ t.goodW from ⟨fun h => by have := hf.out.1.1 h; exact ⟨this.1, by have := this.2; omega⟩, fun h => hf.out.1.2 ⟨h.1, by have := h.2; omega⟩⟩)
  have B5 := Lib.hid (BX.out.trans hk.low)
  clear hf hk CF G BX HB
  cases b with
  | true =>
    go_wp2_with fail
    go_ret
    exact ⟨⟨_, rfl, Lib.hid ⟨fun _ => P.out.1 (by trivial), fun _ => by trivial⟩⟩, B5.out⟩
  | false =>
    go_wp2_with fail
    go_ret
    exact ⟨⟨_, rfl, Lib.hid ⟨(fun h => by cases h), fun h => absurd (P.out.2 h) (by decide)⟩⟩, B5.out⟩
end Go.Proofs.YtiefbdblefliaaaDoor
