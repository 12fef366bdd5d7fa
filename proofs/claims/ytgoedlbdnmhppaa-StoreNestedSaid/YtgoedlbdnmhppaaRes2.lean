/- The walks through coneyref08.Resolved and its method. -/
import Derived.Test.YtgoedlbdnmhppaaRes1
import Derived.Test.YtgoedlbdnmhppaaMa
import Derived.Deep.RegionLaw
namespace Go.Proofs.Ytgoedlbdnmhppaa
open Go.RowKit

/-- The contract of Resolved at a term, at a depth. -/
def ResvC (L : Bs) (f : Nat) (t : T) : Prop := ∀ (w0 w : World) (A : Option Addr) (c : Nat) (v : Value), BL w0 A c L → TP w0 (fun _ => True) t v → Below w0.heap.size w0 w →
  Calls Try.prog 48 #[.slice A L.length c, v] w fun e w' => (∃ v', e = .returned v' ∧ TP w' (fun b => b < w0.heap.size ∨ w.heap.size ≤ b) (resF L f t) v') ∧ Below w.heap.size w w'
set_option maxRecDepth 100000 in
set_option maxHeartbeats 8000000 in
theorem resv_step {L : Bs} (hL : EnvOk L) {f : Nat} (ih : ∀ t, t.ok → Deep L f t → ResvC L f t) {t : T} (ht : t.ok) (hd : Deep L (f + 1) t) : ResvC L (f + 1) t := by
  intro w0 w A c v hbl hv hb0
  obtain ⟨k0, n0, s0, A0, m0, c0, rfl⟩ := hv.agg
  have H := Lib.hid hbl
  have HV := Lib.hid hv
  have HB0 := Lib.hid hb0
  have IH := Lib.hid ih
  have OKW := Lib.hid (hL.walk_ok ht)
  have HD := Lib.hid hd
  have hs0 := hb0.size
  clear hbl hv hb0 ih hd
  obtain ⟨item, hi1, hi2, hi3, hi4⟩ := elTerm.hi
  go_enter Try.func48, Try.ntmps48
  go_wp2_with fail
  have BX := Lib.hid (belA (belA (Below.refl w.heap.size w) (Obj.cells #[.int .i64 k0, .int .i64 n0, .string s0, .slice A0 m0 c0] 40)) (Obj.cells #[.int .i64 0, .int .i64 0, .string ⟨#[]⟩, .slice none 0 0] 40))
  refine (rwalk_any H.out hL HV.out ht (HB0.out.trans (BX.out.mono hs0))).mono ?_
  rintro e w1 ⟨⟨v', rfl, hv'⟩, h1⟩
  have BW := Lib.hid (BX.out.trans (h1.mono (by simp; omega)))
  have X0 := (h1.block w.heap.size (by simp; omega)).trans ((Below.heap_alloc (w.alloc (Obj.cells #[.int .i64 k0, .int .i64 n0, .string s0, .slice A0 m0 c0] 40)) (Obj.cells #[.int .i64 0, .int .i64 0, .string ⟨#[]⟩, .slice none 0 0] 40) w.heap.size (by simp)).trans (heap_alloc_new w _))
  have Y0 := (h1.block (w.heap.size + 1) (by simp)).trans ((congrArg _ (by simp)).trans (heap_alloc_new (w.alloc (Obj.cells #[.int .i64 k0, .int .i64 n0, .string s0, .slice A0 m0 c0] 40)) (Obj.cells #[.int .i64 0, .int .i64 0, .string ⟨#[]⟩, .slice none 0 0] 40)))
  have l0 := heap_lt X0
  have l1 := heap_lt Y0
  have HX0 := Lib.hid X0
  have HY0 := Lib.hid Y0
  have xf : ∀ i, w1.frozen? ⟨w.heap.size, i, none⟩ = false := fun i => by simp [World.frozen?, X0]
  have yf : ∀ i, w1.frozen? ⟨w.heap.size + 1, i, none⟩ = false := fun i => by simp [World.frozen?, Y0]
  obtain ⟨x0, x1, x2, x3⟩ := box4 X0
  obtain ⟨y0, y1, y2, y3⟩ := box4 Y0
  obtain ⟨u, hu⟩ : ∃ u, walkN L t = u := ⟨_, rfl⟩
  rw [hu] at hv' OKW
  cases u with
  | nil => exact hv'.elim
  | mk k n s m a =>
  obtain ⟨A1, c1, rfl, hmc, hA, hx⟩ := hv'
  have OK := Lib.hid OKW.out
  have HU := Lib.hid hu
  have HX := Lib.hid hx
  have HV1 := Lib.hid (show TP w0 (fun _ => True) (.mk k n s m a) (.agg #[.int .i64 k, .int .i64 n, .string s, .slice A1 m c1]) from ⟨A1, c1, rfl, hmc, hA, hx⟩)
  have hm1 := OKW.out.few
  clear hx hA X0 Y0 h1 hu OKW
  cases hk : (k == 4) with
  | false =>
    have hk4 : ¬ k = 4 := by simpa using hk
    have HRR := Lib.hid (resF_leaf HU.out hk4 f)
    clear hk4
    go_wp2_with fail
    have P := box_put4 HX0.out (.int .i64 k) (.int .i64 n) (.string s) (.slice A1 m c1) rfl
    have Y1 := (P.2.2.1 (w.heap.size + 1) (by omega)).trans HY0.out
    have Q := box_put4 Y1 (.int .i64 k) (.int .i64 n) (.string s) (.slice A1 m c1) rfl
    obtain ⟨p0, p1, p2, p3⟩ := box4 Q.1
    refine bodyPost_ret (v := .agg #[.int .i64 k, .int .i64 n, .string s, .slice A1 m c1]) (by simp [results, go_sem, p0, p1, p2, p3]) rfl ?_
    have B9 := Q.2.2.2 _ _ (Nat.le_succ _) (P.2.2.2 _ _ (Nat.le_refl _) BW.out)
    rw [HRR.out]
    exact ⟨⟨_, rfl, ((HV1.out.old.below (HB0.out.trans (B9.mono hs0))).more fun b hb => .inl hb.2)⟩, B9⟩
  | true =>
    have hk4 : k = 4 := by simpa using hk
    subst hk4
    have HRR := Lib.hid (resF_cmp HU.out f)
    have HDD := Lib.hid (HD.out.args HU.out)
    clear hk HD HU
    have P := Lib.hid (put_new HX0.out (Nat.le_refl _) BW.out (.int .i64 4) (.int .i64 n) (.string s) (.slice A1 m c1) (Obj.cells #[.int .i64 4, .int .i64 0, .string s, .slice none 0 0] 40))
    have PN := Lib.hid ((heap_alloc_new ((((w1.setCell ⟨w.heap.size, 0, none⟩ (.int .i64 4)).setCell ⟨w.heap.size, 1, none⟩ (.int .i64 n)).setCell ⟨w.heap.size, 2, none⟩ (.string s)).setCell ⟨w.heap.size, 3, none⟩ (.slice A1 m c1)) (Obj.cells #[.int .i64 4, .int .i64 0, .string s, .slice none 0 0] 40)))
    have G := Lib.hid (show Geo w0.heap.size w.heap.size w.heap.size (w.heap.size + 1) w1.heap.size (w1.heap.size + 1) from ⟨hs0, Nat.le_refl _, Nat.le_succ _, by omega, by omega, by omega, by omega, by omega, by omega⟩)
    have hsz : w.heap.size + 1 < w1.heap.size := l1
    go_wp2_with fail
    go_loopw [6] (fun iv wr => ∃ (i : Nat) (o : Value) (xs : List Value), iv = .int .i64 (i : Int) ∧ BldI (fun i => resF L f (a i)) w0.heap.size w.heap.size w.heap.size (w.heap.size + 1) w1.heap.size (w1.heap.size + 1) #[.int .i64 4, .int .i64 n, .string s, .slice A1 m c1] #[.int .i64 0, .int .i64 0, .string ⟨#[]⟩, .slice none 0 0] s m w wr i o xs) (fun iv _ => m - (intOf iv).toNat)
    case atStart =>
      refine ⟨0, .slice none 0 0, [], rfl, P.out.1, (P.out.2.1 _ (by omega) l1).trans HY0.out, (congrArg _ (by simp)).trans PN.out, World.ownsRow_nil _ _ _ _, fun q hq => absurd hq (by omega), Nat.zero_le _, P.out.2.2, by simp⟩
    case round =>
      clear P PN
      obtain ⟨i, o, xs, rfl, hr⟩ := hrel
      obtain ⟨OA, oc, rfl, hoc, hoA, hom, hox⟩ := own_open hr.own
      have R := Lib.hid hr
      have hi := hr.hi
      obtain ⟨y0, y1, y2, y3⟩ := box4 hr.tb
      obtain ⟨z0, z1, z2, z3⟩ := box4 hr.ob
      have hsl := hr.low.size
      have hlw := hr.lw
      have hol := heap_lt hr.ob
      clear hr
      by_cases him : i < m
      · have him' : (i : Int) < (m : Int) := by omega
        obtain ⟨b, cs, fz, rfl, hSb, hbb, hcell⟩ := HX.out (by omega)
        obtain ⟨v0, v1, v2, v3, c0, c1', c2, c3, ht'⟩ := hcell i him
        obtain ⟨k0', k1, k2, A0', m0', cc0, he⟩ := ht'.agg
        injection he with he
        simp only [Array.mk.injEq, List.cons.injEq, and_true] at he
        obtain ⟨rfl, rfl, rfl, rfl⟩ := he
        have BWR := Lib.hid (HB0.out.trans (R.out.low.mono hs0))
        have hbw := (BWR.out.block b (heap_lt hbb)).trans hbb
        have hbl := heap_lt hbw
        have hr := fun (j : Nat) => cell_of_row wr b j _ _ _ hbw
        have d0 := (hr (4 * i)).trans c0
        have d1 := (hr (4 * i + 1)).trans c1'
        have d2 := (hr (4 * i + 2)).trans c2
        have d3 := (hr (4 * i + 3)).trans c3
        rw [Nat.mul_comm 4 i] at d0 d1 d2 d3
        have BD := Lib.hid ((Below.refl wr.heap.size wr).drew)
        have CI := Lib.hid (IH.out (a i) (OK.out.arg him) (HDD.out i him) w0 wr.drew A c _ H.out ht' BWR.out.drew)
        clear hr c0 c1' c2 c3 ht' hcell hbb hbw hox
        go_wp2_with fail
        go_region_law (first
          | (refine step_append_lies _ rfl _ _ _ rfl (w1.heap.size + 1) 40 item (.agg #[.int .i64 0, .int .i64 0, .string ⟨#[]⟩, .slice none 0 0]) 4 56 Try.underlying30 hi1 hi2 hi3 hi4 rfl (by omega) _ i xs rfl (own_below R.out.own ((BD.out.trans h5).alloc hs5 _)) ⟨w5.heap.size, 0, none⟩ 1 1 [.int .i64 e0, .int .i64 e1, .string e2, .slice B0 n0' d0'] rfl rfl (World.news_of_block (heap_alloc_new _ _)) (by intro u hu; simp only [List.mem_cons, List.not_mem_nil, or_false] at hu; rcases hu with rfl | rfl | rfl | rfl <;> rfl) (by omega) (by unfold maxLen; omega) (by omega) (by simp; omega) _ rfl ?_; intro g9 cap9 w9 hown9 hg9 hat9 hlt9; have hob9 := (hg9.block w1.heap.size (by simp; omega) (fun e => by have := (R.out.own.lt _ e.symm).1; omega)).trans ((Below.heap_alloc w5 _ _ (by omega)).trans ((h5.block w1.heap.size hol).trans R.out.ob)); have of9 : ∀ j, w9.frozen? ⟨w1.heap.size, j, none⟩ = false := (fun j => by simp [World.frozen?, hob9]); obtain ⟨p0, p1, p2, p3⟩ := box4 hob9)
          | (go_simp; go_at_call 48; refine CI.out.mono ?_; rintro e w5 ⟨⟨v5, rfl, hv5⟩, h5⟩; have hag := hv5.agg; obtain ⟨e0, e1, e2, B0, n0', d0', rfl⟩ := hag; have hs5 : wr.heap.size ≤ w5.heap.size := h5.size; have hl5 : w.heap.size + 1 < w5.heap.size := (by omega); have hl6 : w1.heap.size < w5.heap.size := (by omega); obtain ⟨z0, z1, z2, z3⟩ := box4 ((h5.block w1.heap.size hol).trans R.out.ob)))
        all_goals
          have SS := Lib.hid (BldI.push G.out R.out ((BD.out.trans h5).alloc hs5 (Obj.cells #[.int .i64 e0, .int .i64 e1, .string e2, .slice B0 n0' d0'] 40)) (hv5.below ((Below.refl _ _).alloc (Nat.le_refl _) _)) hown9 hg9 (hat9.imp id fun e => e.trans (by simp)) him)
          clear h5 hv5 hown9 hg9 hat9 hlt9 hob9
          go_wp2_with fail
          go_roundw
          case rel => exact ⟨i + 1, _, _, by go_num, SS.out⟩
          case measure => simp [intOf]; omega
      · obtain rfl : i = m := by omega
        have hlr := heap_lt R.out.rb
        obtain ⟨x0, x1, x2, x3⟩ := box4 R.out.rb
        have bf : ∀ j, wr.frozen? ⟨w.heap.size + 1, j, none⟩ = false := fun j => by simp [World.frozen?, R.out.rb]
        clear hox
        go_wp2_with fail
        have D := R.out.done G.out rfl
        obtain ⟨p0, p1, p2, p3⟩ := box4 D.1
        refine bodyPost_ret (v := .agg #[.int .i64 4, .int .i64 0, .string s, .slice OA i oc]) (by simp [results, go_sem, p0, p1, p2, p3]) rfl ?_
        rw [HRR.out]
        exact ⟨⟨_, rfl, D.2.1⟩, D.2.2⟩
theorem resv_any {L : Bs} (hL : EnvOk L) : ∀ (f : Nat) (t : T), t.ok → Deep L f t → ResvC L f t := by
  intro f
  induction f with
  | zero => exact fun t _ hd => hd.elim
  | succ f ih => exact fun t ht hd => resv_step hL ih ht hd
end Go.Proofs.Ytgoedlbdnmhppaa
