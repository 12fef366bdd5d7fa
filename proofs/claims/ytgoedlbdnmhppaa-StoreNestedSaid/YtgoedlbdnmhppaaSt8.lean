/- The program's store: known, bind. -/
import Derived.Test.YtgoedlbdnmhppaaSt7
namespace Go.Proofs.Ytgoedlbdnmhppaa
open Go.RowKit

def allV (t : T) (n : Int) : Prop := ∀ u, t.hasV u → u < n
def KnownP (t : T) (n : Int) (w : World) (e : Ending) (w' : World) : Prop := (∃ b, e = .returned (.bool b) ∧ (b = true ↔ allV t n)) ∧ Below w.heap.size w w'
set_option maxRecDepth 100000 in
set_option maxHeartbeats 4000000 in
theorem sknown_any {B sb : Nat} {C : List CV} {R : List (CV × Nat)} {M : List (Nat × Nat)} : ∀ (t : T), t.ok → ∀ (w : World) (v : Value) (S : Nat → Prop), SM w B sb C R M → TP w S t v →
    Calls Try.prog 26 #[.pointer (some ⟨sb, 0, none⟩), v] w fun e w' => KnownP t (C.length : Int) w e w' := by
  intro t
  induction t with
  | nil => exact fun h => h.1.elim
  | mk k n s m a ih =>
    intro hok w v S h hv
    obtain ⟨A, c, rfl⟩ : ∃ A c, v = .agg #[.int .i64 k, .int .i64 n, .string s, .slice A m c] := by
      obtain ⟨A, c, e, _⟩ := hv; exact ⟨A, c, e⟩
    obtain ⟨A0, c0, b0, hl⟩ := h.lenAt
    have H := Lib.hid h
    have HV := Lib.hid hv
    have IH := Lib.hid ih
    have OK := Lib.hid hok
    have hfew := hok.few
    clear h hv ih hok
    cases hk : (k == 1) with
    | true =>
      obtain rfl : k = 1 := by simpa using hk
      by_cases hlt : n < (C.length : Int)
      all_goals
        go_enter Try.func26, Try.ntmps26
        go_wp2_with fail
        go_quiet (fail)
        go_wp2_with fail
        go_ret
        refine ⟨⟨_, rfl, ?_⟩, bel_drewN (belS (Below.refl _ _) _) _⟩
        have h0 := (OK.out.var rfl).2.2.2
        constructor
        · intro hb u hu
          rcases hu with ⟨_, rfl⟩ | ⟨h, _⟩
          · first | exact hlt | (simp at hb; done) | simpa using hb
          · exact absurd h (by decide)
        · intro hb
          have := hb n (.inl ⟨rfl, rfl⟩)
          first | rfl | (simp; omega) | exact absurd this hlt
    | false =>
      have hk1 : k ≠ 1 := by simpa using hk
      have HK4 := Lib.hid (show 0 < m → k = 4 from fun h => Classical.byContradiction fun e => by have := OK.out.plain e; omega)
      have HK1 := Lib.hid hk1
      clear hk1
      go_enter Try.func26, Try.ntmps26
      go_wp2_with fail
      go_loopw [21] (fun iv wr => ∃ i : Nat, iv = .int .i64 (i : Int) ∧ i ≤ m ∧ Below w.heap.size w wr ∧ ∀ q, q < i → allV (a q) (C.length : Int)) (fun iv _ => m - (intOf iv).toNat)
      case atStart => exact ⟨0, rfl, Nat.zero_le _, belS (Below.refl _ _) _, fun q hq => absurd hq (by omega)⟩
      case round =>
        obtain ⟨i, rfl, hi, hb, hq⟩ := hrel
        have HB := Lib.hid hb
        have HQ := Lib.hid hq
        clear hq
        by_cases him : i < m
        · have him' : (i : Int) < (m : Int) := by omega
          obtain ⟨_, _, _, _, _, _, hargs⟩ := (HV.out.below hb).args
          obtain ⟨b, k0, k1, k2, B0, m0, q0, rfl, hbw, hbl, d0, d1, d2, d3, hti⟩ := hargs i him
          have BX := Lib.hid (belS (Below.refl wr.heap.size wr) (Obj.cells #[.int .i64 k0, .int .i64 k1, .string k2, .slice B0 m0 q0] 40))
          have CI := Lib.hid (IH.out i (OK.out.arg him) _ _ _ ((H.out.below hb).below BX.out) (hti.below BX.out))
          clear hti hargs hb
          go_wp2_with fail
          refine CI.out.mono ?_
          rintro e w5 ⟨⟨bb, rfl, hbb⟩, h5⟩
          have BB := Lib.hid hbb
          have B5 := Lib.hid (HB.out.trans ((BX.out.trans (h5.mono BX.out.size)).mono HB.out.size))
          clear hbb h5 CI
          cases bb with
          | true =>
            have HA := Lib.hid (BB.out.mp rfl)
            go_wp2_with fail
            go_roundw
            case rel =>
              refine ⟨i + 1, by go_num, him, B5.out, fun q hq => ?_⟩
              by_cases hqi : q = i
              · subst hqi; exact HA.out
              · exact HQ.out q (by omega)
            case measure => simp [intOf]; omega
          | false =>
            have HA := Lib.hid (show ¬ allV (a i) (C.length : Int) from fun h => by have := BB.out.mpr h; cases this)
            go_wp2_with fail
            go_ret
            exact ⟨⟨false, rfl, (fun h => by cases h), fun h => absurd (fun u hu => h u (.inr ⟨HK4.out (by omega), i, him, hu⟩)) HA.out⟩, B5.out⟩
        · obtain rfl : i = m := by omega
          go_wp2_with fail
          go_ret
          exact ⟨⟨true, rfl, fun _ u hu => by
            rcases hu with ⟨h, _⟩ | ⟨_, q, hq, hu⟩
            · exact absurd h HK1.out
            · exact HQ.out q hq u hu, fun _ => rfl⟩, HB.out⟩
set_option maxRecDepth 100000 in
set_option maxHeartbeats 4000000 in
theorem sbind_any {w : World} {B sb : Nat} {C : List CV} {R : List (CV × Nat)} {M : List (Nat × Nat)} (h : SM w B sb C R M) (hn : R.length ≤ 1000000) {n : Nat} {c : CV} (ho : C[n]? = some c) (a : TV) :
    Calls Try.prog 40 #[.pointer (some ⟨sb, 0, none⟩), .int .i64 (n : Int), .agg #[.int .i64 a.k, .int .i64 a.n, .string a.s, .slice a.A a.m a.c]] w fun e w' =>
      e = .returned (.tuple #[]) ∧ SM w' B sb (C.set n ⟨true, a, c.attr⟩) (R ++ [(c, n)]) M ∧ SF B w w' := by
  obtain ⟨g0, c0, cs, b0, hl, hh0, hcc, hel⟩ := h.cellAt ho
  have hnl := lt_of_at ho
  have hBw : B ≤ w.heap.size := by have := h.ge; omega
  have hl0 := heap_lt hh0
  obtain ⟨ak, an, as_, aA, am, ac⟩ := a
  obtain ⟨q, ⟨tk, tn, ts, tA, tm, tc⟩, ⟨pk, pn, ps, pA, pm, pc⟩⟩ := c
  have o0 := hel 0 _ rfl
  have o1 := hel 1 _ rfl
  have o2 := hel 2 _ rfl
  have o3 := hel 3 _ rfl
  have o4 := hel 4 _ rfl
  have o5 := hel 5 _ rfl
  have o6 := hel 6 _ rfl
  have o7 := hel 7 _ rfl
  have o8 := hel 8 _ rfl
  simp only [Nat.add_zero] at o0
  have hni : (n : Int) < (C.length : Int) := by omega
  have CC := Lib.hid (fun (W : World) (hW : Below w.heap.size w W) => schange_any (h.below hW) hn ho ⟨true, ⟨ak, an, as_, aA, am, ac⟩, ⟨pk, pn, ps, pA, pm, pc⟩⟩)
  have SB := Lib.hid (fun (W : World) (hW : Below w.heap.size w W) => SF.below hBw hW)
  clear h hel hh0 ho
  go_enter Try.func40, Try.ntmps40
  go_wp2_with fail
  go_region
  go_wp2_with fail
  refine (CC.out _ (belS (belS (Below.refl _ _) _) _).drew).mono ?_
  rintro e w5 ⟨rfl, hs, hf⟩
  have S5 := Lib.hid hs
  have F5 := Lib.hid ((SB.out _ (belS (belS (Below.refl _ _) _) _).drew).trans hf)
  clear hs hf CC SB
  go_wp2_with fail
  go_end0
  exact ⟨rfl, S5.out, F5.out⟩
end Go.Proofs.Ytgoedlbdnmhppaa
