/- The program's store: Resolve. -/
import Derived.Test.YtgoedlbdnmhppaaRes0
import Derived.Test.YtgoedlbdnmhppaaMak
import Derived.Test.YtgoedlbdnmhppaaMa
import Derived.Test.YtgoedlbdnmhppaaSt7
import Derived.Deep.DeepCutAuto
import Derived.OwnWalk
namespace Go.Proofs.Ytgoedlbdnmhppaa
open Go.RowKit

/-- The contract of Resolve at a term, at a depth. -/
def SresC (L : Bs) (f : Nat) (t : T) : Prop := ∀ (w0 w : World) (B sb : Nat) (C : List CV) (R : List (CV × Nat)) (M : List (Nat × Nat)) (v : Value), SM w0 B sb C R M → CL w0 C L → TP w0 (fun _ => True) t v → Below w0.heap.size w0 w →
  Calls Try.prog 17 #[.pointer (some ⟨sb, 0, none⟩), v] w fun e w' => (∃ v', e = .returned v' ∧ TP w' (fun b => b < w0.heap.size ∨ w.heap.size ≤ b) (resF L f t) v') ∧ Below w.heap.size w w'
set_option maxRecDepth 100000 in
set_option maxHeartbeats 8000000 in
theorem sres_step {L : Bs} (hL : EnvOk L) {f : Nat} (ih : ∀ t, t.ok → Deep L f t → SresC L f t) {t : T} (ht : t.ok) (hd : Deep L (f + 1) t) : SresC L (f + 1) t := by
  intro w0 w B sb C R' M v hsm hcl hv hb0
  obtain ⟨k0, n0, s0, A0, m0, c0, rfl⟩ := hv.agg
  have H := Lib.hid hsm
  have HC := Lib.hid hcl
  have HV := Lib.hid hv
  have HB0 := Lib.hid hb0
  have IH := Lib.hid ih
  have OKW := Lib.hid (hL.walk_ok ht)
  have HD := Lib.hid hd
  have hs0 := hb0.size
  clear hsm hcl hv hb0 ih hd
  go_enter Try.func17, Try.ntmps17
  go_wp2_with fail
  have BX := Lib.hid (belA (belA (Below.refl w.heap.size w) (Obj.cells #[.int .i64 k0, .int .i64 n0, .string s0, .slice A0 m0 c0] 40)) (Obj.cells #[.int .i64 0, .int .i64 0, .string ⟨#[]⟩, .slice none 0 0] 40))
  refine (swalk_any H.out HC.out HV.out ht (HB0.out.trans (BX.out.mono hs0))).mono ?_
  rintro e w1 ⟨⟨v', rfl, hv'⟩, h1⟩
  have BW := Lib.hid (BX.out.trans (h1.mono (by simp; omega)))
  have X0 := (h1.block w.heap.size (by simp; omega)).trans ((Below.heap_alloc (w.alloc (Obj.cells #[.int .i64 k0, .int .i64 n0, .string s0, .slice A0 m0 c0] 40)) (Obj.cells #[.int .i64 0, .int .i64 0, .string ⟨#[]⟩, .slice none 0 0] 40) w.heap.size (by simp)).trans (heap_alloc_new w _))
  have Y0 := (h1.block (w.heap.size + 1) (by simp)).trans ((congrArg _ (by simp)).trans (heap_alloc_new (w.alloc (Obj.cells #[.int .i64 k0, .int .i64 n0, .string s0, .slice A0 m0 c0] 40)) (Obj.cells #[.int .i64 0, .int .i64 0, .string ⟨#[]⟩, .slice none 0 0] 40)))
  have l0 := heap_lt X0
  have l1 := heap_lt Y0
  have HX0 := Lib.hid X0
  have HY0 := Lib.hid Y0
  have xf : ∀ i, w1.frozen? ⟨w.heap.size, i, none⟩ = false := fun i => by simp [World.frozen?, X0]
  have yf : ∀ i, w1.frozen? ⟨w.heap.size + 1, i, none⟩ = false := fun i => by simp [World.frozen?, Y0]
  obtain ⟨x0, x1, x2, x3⟩ := box4 X0
  obtain ⟨y0, y1, y2, y3⟩ := box4 Y0
  obtain ⟨u, hu⟩ : ∃ u, walkN L t = u := ⟨_, rfl⟩
  rw [hu] at hv' OKW
  cases u with
  | nil => exact hv'.elim
  | mk k n s m a =>
  obtain ⟨A1, c1, rfl, hmc, hA, hx⟩ := hv'
  have OK := Lib.hid OKW.out
  have HU := Lib.hid hu
  have HX := Lib.hid hx
  have HV1 := Lib.hid (show TP w0 (fun _ => True) (.mk k n s m a) (.agg #[.int .i64 k, .int .i64 n, .string s, .slice A1 m c1]) from ⟨A1, c1, rfl, hmc, hA, hx⟩)
  have hm1 := OKW.out.few
  clear hx hA X0 Y0 h1 hu OKW
  cases hk : (k == 4) with
  | false =>
    have hk4 : ¬ k = 4 := by simpa using hk
    have HRR := Lib.hid (resF_leaf HU.out hk4 f)
    clear hk4
    go_wp2_with fail
    have P := box_put4 HX0.out (.int .i64 k) (.int .i64 n) (.string s) (.slice A1 m c1) rfl
    have Y1 := (P.2.2.1 (w.heap.size + 1) (by omega)).trans HY0.out
    have Q := box_put4 Y1 (.int .i64 k) (.int .i64 n) (.string s) (.slice A1 m c1) rfl
    obtain ⟨p0, p1, p2, p3⟩ := box4 Q.1
    refine bodyPost_ret (v := .agg #[.int .i64 k, .int .i64 n, .string s, .slice A1 m c1]) (by simp [results, go_sem, p0, p1, p2, p3]) rfl ?_
    have B9 := Q.2.2.2 _ _ (Nat.le_succ _) (P.2.2.2 _ _ (Nat.le_refl _) BW.out)
    rw [HRR.out]
    exact ⟨⟨_, rfl, ((HV1.out.old.below (HB0.out.trans (B9.mono hs0))).more fun b hb => .inl hb.2)⟩, B9⟩
  | true =>
    have hk4 : k = 4 := by simpa using hk
    subst hk4
    have HRR := Lib.hid (resF_cmp HU.out f)
    have HDD := Lib.hid (HD.out.args HU.out)
    clear hk HD HU
    have P := Lib.hid (box_put4 HX0.out (.int .i64 4) (.int .i64 n) (.string s) (.slice A1 m c1) rfl)
    obtain ⟨item, hi1, hi2, hi3, hi4⟩ := elTerm.hi
    have hm0 : (0 : Int) ≤ (m : Int) := by omega
    obtain ⟨W3, hW3⟩ : ∃ W3, (((w1.setCell ⟨w.heap.size, 0, none⟩ (.int .i64 4)).setCell ⟨w.heap.size, 1, none⟩ (.int .i64 n)).setCell ⟨w.heap.size, 2, none⟩ (.string s)).setCell ⟨w.heap.size, 3, none⟩ (.slice A1 m c1) = W3 := ⟨_, rfl⟩
    have P := Lib.hid (box_put4 HX0.out (.int .i64 4) (.int .i64 n) (.string s) (.slice A1 m c1) hW3)
    have BW3 := Lib.hid (P.out.2.2.2 _ _ (Nat.le_refl _) BW.out)
    have Y3 := Lib.hid ((P.out.2.2.1 (w.heap.size + 1) (by omega)).trans HY0.out)
    have hz3 := P.out.2.1
    obtain ⟨item, hi1, hi2, hi3, hi4⟩ := elTerm.hi
    have hm0 : (0 : Int) ≤ (m : Int) := by omega
    have hGG := Lib.hid (show GeoM w0.heap.size w.heap.size w.heap.size (w.heap.size + 1) W3.heap.size from ⟨hs0, Nat.le_refl _, Nat.le_succ _, by omega, by omega⟩)
    have hbw := BW3.out.size
    have HZ3 := Lib.hid hz3
    clear hz3
    have X3 := P.out.1
    obtain ⟨z0, z1, z2, z3⟩ := box4 X3
    have hl3 := heap_lt X3
    clear X3
    go_wp2_with (at_make; go_must (refine wpList_make_full _ rfl _ _ _ rfl W3.heap.size 40 item (.agg #[.int .i64 0, .int .i64 0, .string ⟨#[]⟩, .slice none 0 0]) 4 Try.underlying30 hi1 hi2 hi3 _ _ _ _ m rfl rfl rfl rfl (by rw [hi4]; omega) (by unfold maxLen; omega) (Nat.le_refl _) ?_))
    intro w7 hown hg
    have B7 := Lib.hid (show Below w.heap.size w w7 from BW3.out.grown hg hbw fun k hk => by cases hk)
    have X7 := Lib.hid ((hg.block w.heap.size (by omega) (by simp)).trans P.out.1)
    have Y7 := Lib.hid ((hg.block (w.heap.size + 1) (by have := HZ3.out; omega) (by simp)).trans Y3.out)
    have M0 := Lib.hid (show MakI (fun i => resF L f (a i)) w0.heap.size w.heap.size w.heap.size (w.heap.size + 1) W3.heap.size #[.int .i64 4, .int .i64 n, .string s, .slice A1 m c1] #[.int .i64 0, .int .i64 0, .string ⟨#[]⟩, .slice none 0 0] m w w7 0 from by
      have hlt := (hown.lt _ rfl).2
      refine ⟨X7.out, Y7.out, fun hm => ?_, Nat.zero_le _, B7.out, hlt⟩
      have hl := own_len hown
      obtain ⟨A9, c9, e9, _, _, _, hx9⟩ := own_open hown
      obtain ⟨g9, cur, rfl, _, hh, hcur⟩ := hx9 hm
      injection e9 with e9
      injection e9 with e9
      injection e9 with e9
      subst e9
      refine ⟨cur, hh, ?_, fun q hq => absurd hq (by omega)⟩
      have h1 := hcur (4 * m - 1) (by omega)
      rw [List.getElem?_eq_getElem (by omega)] at h1
      have := (Array.getElem?_eq_some_iff.mp h1).1
      omega)
    obtain ⟨z0, z1, z2, z3⟩ := box4 X7.out
    have hl7 := heap_lt X7.out
    clear hown hg x0 x1 x2 x3 y0 y1 y2 y3 xf yf hW3
    go_wp2_with fail
    go_loopw [6, 7, 22] (fun _ _ iv wr => ∃ i : Nat, iv = .int .i64 (i : Int) ∧ MakI (fun i => resF L f (a i)) w0.heap.size w.heap.size w.heap.size (w.heap.size + 1) W3.heap.size #[.int .i64 4, .int .i64 n, .string s, .slice A1 m c1] #[.int .i64 0, .int .i64 0, .string ⟨#[]⟩, .slice none 0 0] m w wr i) (fun _ _ iv _ => m - (intOf iv).toNat)
    case atStart => exact ⟨0, rfl, M0.out⟩
    case round =>
      clear M0
      obtain ⟨i, rfl, hr⟩ := hrel
      have R := Lib.hid hr
      have hi := hr.hi
      have hlw := hr.lw
      have hsl := hr.low.size
      obtain ⟨z0, z1, z2, z3⟩ := box4 hr.tb
      have hlt := heap_lt hr.tb
      have hlr := heap_lt hr.rb
      by_cases him : i < m
      · have him' : (i : Int) < (m : Int) := by omega
        obtain ⟨b, cs, fz, rfl, hSb, hbb, hcell⟩ := HX.out (by omega)
        obtain ⟨v0, v1, v2, v3, c0, c1', c2, c3, ht'⟩ := hcell i him
        obtain ⟨k0', k1, k2, A0', m0', cc0, he⟩ := ht'.agg
        injection he with he
        simp only [Array.mk.injEq, List.cons.injEq, and_true] at he
        obtain ⟨rfl, rfl, rfl, rfl⟩ := he
        have BWR := Lib.hid (HB0.out.trans (R.out.low.mono hs0))
        have hbw := (BWR.out.block b (heap_lt hbb)).trans hbb
        have hbl := heap_lt hbw
        have hrc := fun (j : Nat) => cell_of_row wr b j _ _ _ hbw
        have d0 := (hrc (4 * i)).trans c0
        have d1 := (hrc (4 * i + 1)).trans c1'
        have d2 := (hrc (4 * i + 2)).trans c2
        have d3 := (hrc (4 * i + 3)).trans c3
        rw [Nat.mul_comm 4 i] at d0 d1 d2 d3
        obtain ⟨cur, hcur, hcsz, _⟩ := hr.row (by omega)
        have HCUR := Lib.hid hcur
        have HB1 := Lib.hid (belA (Below.refl wr.heap.size wr) (Obj.cells #[.int .i64 k0', .int .i64 k1, .string k2, .slice A0' m0' cc0] 40))
        have CI := Lib.hid (IH.out (a i) (OK.out.arg him) (HDD.out i him) w0 (wr.alloc (Obj.cells #[.int .i64 k0', .int .i64 k1, .string k2, .slice A0' m0' cc0] 40)) B sb C R' M _ H.out HC.out ht' (BWR.out.trans (HB1.out.mono (by omega))))
        clear hrc c0 c1' c2 c3 ht' hcell hbb hbw hr hcur
        go_wp2_with fail
        refine CI.out.mono ?_
        rintro e w5 ⟨⟨v5, rfl, hv5⟩, h5⟩
        obtain ⟨e0, e1, e2, B0, n0', d0', rfl⟩ := hv5.agg
        have B5 := Lib.hid (HB1.out.trans (h5.mono (by simp)))
        have hc5 := (B5.out.block W3.heap.size hlw).trans HCUR.out
        have hg5 := heap_lt hc5
        have rc := fun (j : Nat) (hj : j < cur.size) => (cell_of_row w5 W3.heap.size j _ _ _ hc5).trans (Array.getElem?_eq_getElem hj)
        have r0 := rc (i * 4) (by omega)
        have r1 := rc (i * 4 + 1) (by omega)
        have r2 := rc (i * 4 + 2) (by omega)
        have r3 := rc (i * 4 + 3) (by omega)
        have rf : ∀ j, w5.frozen? ⟨W3.heap.size, j, none⟩ = false := fun j => by simp [World.frozen?, hc5]
        have SS := Lib.hid (MakI.push hGG.out R.out him B5.out (hv5.more fun b hb => by
          rcases hb with h | h
          · exact .inl h
          · simp at h; exact .inr (by omega)) HCUR.out rfl)
        clear hv5 h5 rc hc5 d0 d1 d2 d3
        go_wp2_with fail
        go_roundw
        case rel => exact ⟨i + 1, by go_num, SS.out⟩
        case measure => simp [intOf]; omega
      · obtain rfl : i = m := by omega
        obtain ⟨x0, x1, x2, x3⟩ := box4 R.out.rb
        have bf : ∀ j, wr.frozen? ⟨w.heap.size + 1, j, none⟩ = false := fun j => by simp [World.frozen?, R.out.rb]
        clear hr
        go_wp2_with fail
        have D := R.out.done (s := s) hGG.out rfl
        obtain ⟨p0, p1, p2, p3⟩ := box4 D.1
        refine bodyPost_ret (v := .agg #[.int .i64 4, .int .i64 0, .string s, .slice (some ⟨W3.heap.size, 0, none⟩) i i]) (by simp [results, go_sem, p0, p1, p2, p3]) rfl ?_
        rw [HRR.out]
        exact ⟨⟨_, rfl, D.2.1⟩, D.2.2⟩
theorem sres_any {L : Bs} (hL : EnvOk L) : ∀ (f : Nat) (t : T), t.ok → Deep L f t → SresC L f t := by
  intro f
  induction f with
  | zero => exact fun t _ hd => hd.elim
  | succ f ih => exact fun t ht hd => sres_step hL ih ht hd
end Go.Proofs.Ytgoedlbdnmhppaa
