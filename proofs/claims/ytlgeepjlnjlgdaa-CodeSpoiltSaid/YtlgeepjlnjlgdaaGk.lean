/- The walks through coneyref07.place, numbered. The walk through coneyref07.Variant. -/
import Derived.Test.YtlgeepjlnjlgdaaGf
import Derived.Test.YtlgeepjlnjlgdaaCo5
import Derived.Test.YtlgeepjlnjlgdaaBld
import Derived.Test.YtlgeepjlnjlgdaaCmp
import Derived.Deep.RegionLaw
import Derived.Deep.Cut
import Derived.Deep.RegionHeld3
namespace Go.Proofs.Ytlgeepjlnjlgdaa
open Go.RowKit

set_option maxRecDepth 100000 in
set_option maxHeartbeats 4000000 in
theorem place7_any {ns : List Int} {A : Option Addr} {c : Nat} {w : World} (ha : IRow w (.slice A ns.length c) ns) (hl : ns.length ≤ 1000000) (x : Int) :
    Calls Try.prog 45 #[.slice A ns.length c, .int .i64 x] w fun e w' => e = .returned (.int .i64 (plV (plN ns x 0))) ∧ Below w.heap.size w w' := by
  obtain ⟨_, _, e1, ha1, ha2, hax⟩ := ha.open_
  injection e1 with e1 _ e2
  subst e1; subst e2
  have HA := Lib.hid hax
  clear hax ha ha2
  go_enter Try.func45, Try.ntmps45
  go_wp2_with fail
  go_loopw [4, 5] (fun _ iv wr => ∃ i : Nat, iv = .int .i64 (i : Int) ∧ i ≤ ns.length ∧ (∀ q, q < i → ns[q]? ≠ some x) ∧ Below w.heap.size w wr) (fun _ iv _ => ns.length - (intOf iv).toNat)
  case atStart => exact ⟨0, rfl, Nat.zero_le _, fun q hq => absurd hq (by omega), Below.refl _ _⟩
  case round =>
    obtain ⟨i, rfl, hi, hq, hb⟩ := hrel
    have HQ := Lib.hid hq
    have HW := Lib.hid hb
    clear hb hq
    by_cases him : i < ns.length
    · have him' : (i : Int) < (ns.length : Int) := by omega
      obtain ⟨y, hy⟩ : ∃ y, ns[i]? = some y := ⟨_, List.getElem?_eq_getElem him⟩
      obtain ⟨ga, rfl, hgl, ca⟩ := HA.out i y hy
      have da := (HW.out.cell (p := ⟨ga, i, none⟩) hgl).trans ca
      have HY := Lib.hid hy
      clear ca hy
      cases hyx : (y == x) with
      | true =>
        have E := Lib.hid (show plN ns x 0 = some i from plN_at (by rw [HY.out]; congr 1; simpa using hyx) HQ.out)
        go_wp2_with fail
        go_ret
        exact ⟨by rw [E.out]; rfl, HW.out⟩
      | false =>
        have HN := Lib.hid (show y ≠ x by simpa using hyx)
        go_wp2_with fail
        go_roundw
        case rel => exact ⟨i + 1, by go_num, him, fun q hq h => by
          rcases Nat.lt_or_ge q i with h1 | h1
          · exact HQ.out q h1 h
          · obtain rfl : q = i := by omega
            rw [HY.out] at h
            injection h with h
            exact HN.out h, HW.out⟩
        case measure => simp [intOf]; omega
    · have him' : ¬ (i : Int) < (ns.length : Int) := by omega
      have E := Lib.hid (show plN ns x 0 = none from plN_none.2 fun hm => by
        obtain ⟨q, hq⟩ := List.getElem?_of_mem hm
        exact HQ.out q (by
          rcases Nat.lt_or_ge q ns.length with h | h
          · omega
          · rw [List.getElem?_eq_none h] at hq; cases hq) hq)
      go_wp2_with fail
      go_ret
      exact ⟨by rw [E.out]; rfl, HW.out⟩

theorem posV_plV (V : List Int) (n : Int) : plV (plN V n 0) = posV V n := by
  unfold plV posV
  rfl
/-- What numbering hands back. -/
def NumdP (V : List Int) (t : T) (w0 w : World) (e : Ending) (w' : World) : Prop :=
  (∃ v', e = .returned v' ∧ TP w' (fun b => b < w0.heap.size ∨ w.heap.size ≤ b) (numT V t) v') ∧ Below w.heap.size w w'
theorem numT_leaf {V : List Int} {k n : Int} {s : ByteArray} {m : Nat} {a : Nat → T} (h1 : ¬ k = 1) (h4 : ¬ k = 4) : numT V (.mk k n s m a) = .mk k n s m a := by unfold numT; rw [if_neg h1, if_neg h4]
set_option maxRecDepth 100000 in
set_option maxHeartbeats 8000000 in
theorem numbered_any {V : List Int} {w0 : World} {A : Option Addr} {c : Nat} (ha : IRow w0 (.slice A V.length c) V) (hV : V.length ≤ 100000) : ∀ (t : T), t.thin → ∀ (v : Value) (w : World), TP w0 (fun _ => True) t v → Below w0.heap.size w0 w →
    Calls Try.prog 29 #[v, .slice A V.length c] w fun e w' => NumdP V t w0 w e w' := by
  intro t
  induction t with
  | nil => exact fun h => h.elim
  | mk k n s m a ih =>
    intro hth v w hv hb0
    have IH := Lib.hid ih
    have HA := Lib.hid ha
    have HT := Lib.hid hth
    have HB0 := Lib.hid hb0
    have HV1 := Lib.hid hv
    have hm1 := hth.1
    have hs0 := hb0.size
    obtain ⟨A1, c1, rfl, hmc, hA, hx⟩ := hv
    have HX := Lib.hid hx
    obtain ⟨item, hi1, hi2, hi3, hi4⟩ := elTerm.hi
    have BX := Lib.hid (belA (belA (Below.refl w.heap.size w) (Obj.cells #[.int .i64 k, .int .i64 n, .string s, .slice A1 m c1] 24)) (Obj.cells #[.int .i64 0, .int .i64 0, .string ⟨#[]⟩, .slice none 0 0] 24))
    obtain ⟨W, hW⟩ : ∃ W, W = (w.alloc (Obj.cells #[.int .i64 k, .int .i64 n, .string s, .slice A1 m c1] 24)).alloc (Obj.cells #[.int .i64 0, .int .i64 0, .string ⟨#[]⟩, .slice none 0 0] 24) := ⟨_, rfl⟩
    rw [← hW] at BX
    have HX0 := Lib.hid (show W.heap[w.heap.size]? = some (.cells #[.int .i64 k, .int .i64 n, .string s, .slice A1 m c1] 24 (0, 0)) by rw [hW]; exact (Below.heap_alloc _ _ _ (by simp)).trans (heap_alloc_new _ _))
    have HY0 := Lib.hid (show W.heap[w.heap.size + 1]? = some (.cells #[.int .i64 0, .int .i64 0, .string ⟨#[]⟩, .slice none 0 0] 24 (0, 0)) by rw [hW]; exact heap_at _ _ (by simp))
    have hWs : w.heap.size + 1 < W.heap.size := by rw [hW]; simp
    have xf : ∀ i, W.frozen? ⟨w.heap.size, i, none⟩ = false := fun i => by simp [World.frozen?, HX0.out]
    have yf : ∀ i, W.frozen? ⟨w.heap.size + 1, i, none⟩ = false := fun i => by simp [World.frozen?, HY0.out]
    obtain ⟨x0, x1, x2, x3⟩ := box4t HX0.out
    obtain ⟨y0, y1, y2, y3⟩ := box4t HY0.out
    have HW := Lib.hid hW
    have BWW := Lib.hid (HB0.out.trans (BX.out.mono hs0))
    have AW := Lib.hid (HA.out.below BWW.out)
    clear hx hA hth hb0 ih hW ha
    go_enter Try.func29, Try.ntmps29
    go_upto_region 1 with fail
    rw [← HW.out]
    by_cases h1 : k = 1
    · subst h1
      have CP := Lib.hid (place7_any AW.out (by omega) n)
      go_wp2_with fail
      refine CP.out.mono ?_
      rintro e w1 ⟨rfl, hb1⟩
      rw [posV_plV]
      have HY1 := Lib.hid ((hb1.block _ (by omega)).trans HY0.out)
      have B1 := Lib.hid (BX.out.trans (hb1.mono (by omega)))
      have yf1 : ∀ i, w1.frozen? ⟨w.heap.size + 1, i, none⟩ = false := fun i => by simp [World.frozen?, HY1.out]
      have hl1 := heap_lt HY1.out
      clear hb1 CP xf yf x0 x1 x2 x3 y0 y1 y2 y3
      obtain ⟨y0, y1, y2, y3⟩ := box4t HY1.out
      go_wp2_with fail
      have P := box_put4 HY1.out (.int .i64 1) (.int .i64 (posV V n)) (.string ⟨#[]⟩) (.slice none 0 0) rfl
      obtain ⟨p0, p1, p2, p3⟩ := box4t P.1
      refine bodyPost_ret (v := .agg #[.int .i64 1, .int .i64 (posV V n), .string ⟨#[]⟩, .slice none 0 0]) (by simp [results, go_sem, p0, p1, p2, p3]) rfl ?_
      refine ⟨⟨_, rfl, ?_⟩, P.2.2.2 _ _ (Nat.le_succ _) B1.out⟩
      rw [num_var]
      exact TP.leaf _ _ 1 _ _
    have e1 : (k == 1) = false := by simp; exact h1
    cases hk : (k == 4) with
    | false =>
      have HRR := Lib.hid (numT_leaf (V := V) (n := n) (s := s) (m := m) (a := a) h1 (by simpa using hk))
      clear h1
      go_wp2_with fail
      have P := box_put4 HY0.out (.int .i64 k) (.int .i64 n) (.string s) (.slice A1 m c1) rfl
      obtain ⟨p0, p1, p2, p3⟩ := box4t P.1
      refine bodyPost_ret (v := .agg #[.int .i64 k, .int .i64 n, .string s, .slice A1 m c1]) (by simp [results, go_sem, p0, p1, p2, p3]) rfl ?_
      have B9 := P.2.2.2 _ _ (Nat.le_succ _) BX.out
      unfold NumdP
      rw [HRR.out]
      exact ⟨⟨_, rfl, ((HV1.out.old.below (HB0.out.trans (B9.mono hs0))).more fun b hb => .inl hb.2)⟩, B9⟩
    | true =>
    have hk4 : k = 4 := by simpa using hk
    subst hk4
    clear hk h1 e1
    have HRR := Lib.hid (num_cmp (V := V) (n := n) (s := s) (m := m) (a := a))
    have PN := Lib.hid (heap_alloc_new W (Obj.cells #[.int .i64 4, .int .i64 0, .string s, .slice none 0 0] 24))
    have BN := Lib.hid (Below.alloc (Below.refl W.heap.size W) (Nat.le_refl _) (Obj.cells #[.int .i64 4, .int .i64 0, .string s, .slice none 0 0] 24))
    have G := Lib.hid (show Geo w0.heap.size w.heap.size w.heap.size (w.heap.size + 1) W.heap.size (W.heap.size + 1) from ⟨hs0, Nat.le_refl _, Nat.le_succ _, by omega, by omega, by omega, by omega, by omega, by omega⟩)
    go_wp2_with fail
    go_loopw [6] (fun iv wr => ∃ (i : Nat) (o : Value) (xs : List Value), iv = .int .i64 (i : Int) ∧ BldI (fun i => numT V (a i)) w0.heap.size w.heap.size w.heap.size (w.heap.size + 1) W.heap.size (W.heap.size + 1) #[.int .i64 4, .int .i64 n, .string s, .slice A1 m c1] #[.int .i64 0, .int .i64 0, .string ⟨#[]⟩, .slice none 0 0] s m w wr i o xs) (fun iv _ => m - (intOf iv).toNat)
    case atStart =>
      exact ⟨0, .slice none 0 0, [], rfl, (BN.out.block _ (by omega)).trans HX0.out, (BN.out.block _ (by omega)).trans HY0.out, PN.out, World.ownsRow_nil _ _ _ _, fun q hq => absurd hq (by omega), Nat.zero_le _, BX.out.trans (BN.out.mono (by omega)), by simp⟩
    case round =>
      clear PN BN xf yf x0 x1 x2 x3 y0 y1 y2 y3
      obtain ⟨i, o, xs, rfl, hr⟩ := hrel
      obtain ⟨OA, oc, rfl, hoc, hoA, hom, hox⟩ := own_open hr.own
      have R := Lib.hid hr
      have hi := hr.hi
      obtain ⟨y0, y1, y2, y3⟩ := box4 hr.tb
      obtain ⟨z0, z1, z2, z3⟩ := box4 hr.ob
      have hsl := hr.low.size
      have hlw := hr.lw
      have hol := heap_lt hr.ob
      clear hr
      by_cases him : i < m
      · have him' : (i : Int) < (m : Int) := by omega
        obtain ⟨b, cs, fz, rfl, hSb, hbb, hcell⟩ := HX.out (by omega)
        obtain ⟨v0, v1, v2, v3, c0, c1', c2, c3, ht'⟩ := hcell i him
        obtain ⟨k0', k1, k2, A0', m0', cc0, he⟩ := ht'.agg
        injection he with he
        simp only [Array.mk.injEq, List.cons.injEq, and_true] at he
        obtain ⟨rfl, rfl, rfl, rfl⟩ := he
        have BWR := Lib.hid (HB0.out.trans (R.out.low.mono hs0))
        have hbw := (BWR.out.block b (heap_lt hbb)).trans hbb
        have hbl := heap_lt hbw
        have hr := fun (j : Nat) => cell_of_row wr b j _ _ _ hbw
        have d0 := (hr (4 * i)).trans c0
        have d1 := (hr (4 * i + 1)).trans c1'
        have d2 := (hr (4 * i + 2)).trans c2
        have d3 := (hr (4 * i + 3)).trans c3
        rw [Nat.mul_comm 4 i] at d0 d1 d2 d3
        have BD := Lib.hid ((Below.refl wr.heap.size wr).drew)
        have CI := Lib.hid (IH.out i (HT.out.2 i him) _ wr.drew ht' BWR.out.drew)
        clear hr c0 c1' c2 c3 ht' hcell hbb hbw hox
        go_wp2_with fail
        go_region_law (first
          | (refine step_append_lies _ rfl _ _ _ rfl (W.heap.size + 1) 24 item (.agg #[.int .i64 0, .int .i64 0, .string ⟨#[]⟩, .slice none 0 0]) 4 56 Try.underlying22 hi1 hi2 hi3 hi4 rfl (by omega) _ i xs rfl (own_below R.out.own ((BD.out.trans h5).alloc hs5 _)) ⟨w5.heap.size, 0, none⟩ 1 1 [.int .i64 e0, .int .i64 e1, .string e2, .slice B0 n0' d0'] rfl rfl (World.news_of_block (heap_alloc_new _ _)) (by intro u hu; simp only [List.mem_cons, List.not_mem_nil, or_false] at hu; rcases hu with rfl | rfl | rfl | rfl <;> rfl) (by omega) (by unfold maxLen; omega) (by omega) (by simp; omega) _ rfl ?_; intro g9 cap9 w9 hown9 hg9 hat9 hlt9; have hob9 := (hg9.block W.heap.size (by simp; omega) (fun e => by have := (R.out.own.lt _ e.symm).1; omega)).trans ((Below.heap_alloc w5 _ _ (by omega)).trans ((h5.block W.heap.size hol).trans R.out.ob)); have of9 : ∀ j, w9.frozen? ⟨W.heap.size, j, none⟩ = false := (fun j => by simp [World.frozen?, hob9]); obtain ⟨p0, p1, p2, p3⟩ := box4 hob9)
          | (go_simp; go_at_call 29; refine CI.out.mono ?_; rintro e w5 ⟨⟨v5, rfl, hv5⟩, h5⟩; have hag := hv5.agg; obtain ⟨e0, e1, e2, B0, n0', d0', rfl⟩ := hag; have hs5 : wr.heap.size ≤ w5.heap.size := h5.size; have hl5 : w.heap.size + 1 < w5.heap.size := (by omega); have hl6 : W.heap.size < w5.heap.size := (by omega); obtain ⟨z0, z1, z2, z3⟩ := box4 ((h5.block W.heap.size hol).trans R.out.ob)))
        all_goals
          have SS := Lib.hid (BldI.push G.out R.out ((BD.out.trans h5).alloc hs5 (Obj.cells #[.int .i64 e0, .int .i64 e1, .string e2, .slice B0 n0' d0'] 24)) (hv5.below ((Below.refl _ _).alloc (Nat.le_refl _) _)) hown9 hg9 (hat9.imp id fun e => e.trans (by simp)) him)
          clear h5 hv5 hown9 hg9 hat9 hlt9 hob9
          go_wp2_with fail
          go_roundw
          case rel => exact ⟨i + 1, _, _, by go_num, SS.out⟩
          case measure => simp [intOf]; omega
      · obtain rfl : i = m := by omega
        have hlr := heap_lt R.out.rb
        obtain ⟨x0, x1, x2, x3⟩ := box4 R.out.rb
        have bf : ∀ j, wr.frozen? ⟨w.heap.size + 1, j, none⟩ = false := fun j => by simp [World.frozen?, R.out.rb]
        clear hox
        go_wp2_with fail
        have D := R.out.done G.out rfl
        obtain ⟨p0, p1, p2, p3⟩ := box4 D.1
        refine bodyPost_ret (v := .agg #[.int .i64 4, .int .i64 0, .string s, .slice OA i oc]) (by simp [results, go_sem, p0, p1, p2, p3]) rfl ?_
        unfold NumdP
        rw [HRR.out]
        exact ⟨⟨_, rfl, D.2.1⟩, D.2.2⟩
end Go.Proofs.Ytlgeepjlnjlgdaa
namespace Go.Proofs.Ytlgeepjlnjlgdaa
open Go.RowKit

theorem num_thin {V : List Int} : ∀ {t : T}, t.thin → (numT V t).thin
  | .nil, h => h.elim
  | .mk k n s m a, h => by
    by_cases h1 : k = 1
    · subst h1
      rw [num_var]
      exact ⟨by decide, fun i hi => absurd hi (by omega)⟩
    · by_cases h4 : k = 4
      · subst h4
        rw [num_cmp]
        exact ⟨h.1, fun i hi => num_thin (h.2 i hi)⟩
      · rw [numT_leaf h1 h4]; exact h
theorem varsT_few1 {t : T} (h : t.ok) : (varsT t).length ≤ 100000 := Nat.le_trans (varsT_few h) (by decide)
set_option maxRecDepth 100000 in
set_option maxHeartbeats 8000000 in
theorem variant_any {t u : T} (ht : t.ok) (hu : u.ok) {v v' : Value} {w : World} {S S' : Nat → Prop} (hv : TP w S t v) (hv' : TP w S' u v') :
    Calls Try.prog 14 #[v, v'] w fun e w' => (∃ b, e = .returned (.bool b) ∧ Hid (b = true ↔ eqT (numT (varsT t) t) (numT (varsT u) u))) ∧ Below w.heap.size w w' := by
  obtain ⟨k0, n0, s0, A0, m0, c0, rfl⟩ := hv.agg
  obtain ⟨k9, n9, s9, A9, m9, c9, rfl⟩ := hv'.agg
  obtain ⟨W, hW⟩ : ∃ W, W = (w.alloc (Obj.cells #[.int .i64 k0, .int .i64 n0, .string s0, .slice A0 m0 c0] 24)).alloc (Obj.cells #[.int .i64 k9, .int .i64 n9, .string s9, .slice A9 m9 c9] 24) := ⟨_, rfl⟩
  have HW := Lib.hid hW
  have BX := Lib.hid (show Below w.heap.size w W by rw [hW]; exact belA (belA (Below.refl w.heap.size w) _) _)
  have HX0 := Lib.hid (show W.heap[w.heap.size]? = some (.cells #[.int .i64 k0, .int .i64 n0, .string s0, .slice A0 m0 c0] 24 (0, 0)) by rw [hW]; exact (Below.heap_alloc _ _ _ (by simp)).trans (heap_alloc_new _ _))
  have HY0 := Lib.hid (show W.heap[w.heap.size + 1]? = some (.cells #[.int .i64 k9, .int .i64 n9, .string s9, .slice A9 m9 c9] 24 (0, 0)) by rw [hW]; exact heap_at _ _ (by simp))
  have B0 := Lib.hid (show Below W.heap.size W W.drew from (Below.refl _ _).drew)
  have HV := Lib.hid (hv.below BX.out)
  have HV2 := Lib.hid (hv'.below BX.out)
  have SS := Lib.hid (show ∀ V, Below W.heap.size W V → V.cell? ⟨w.heap.size, 0, none⟩ = some (.int .i64 k0) ∧ V.cell? ⟨w.heap.size, 1, none⟩ = some (.int .i64 n0) ∧ V.cell? ⟨w.heap.size, 2, none⟩ = some (.string s0) ∧ V.cell? ⟨w.heap.size, 3, none⟩ = some (.slice A0 m0 c0) ∧ V.cell? ⟨w.heap.size + 1, 0, none⟩ = some (.int .i64 k9) ∧ V.cell? ⟨w.heap.size + 1, 1, none⟩ = some (.int .i64 n9) ∧ V.cell? ⟨w.heap.size + 1, 2, none⟩ = some (.string s9) ∧ V.cell? ⟨w.heap.size + 1, 3, none⟩ = some (.slice A9 m9 c9) from fun V hV => by
    obtain ⟨x0, x1, x2, x3⟩ := box4t ((hV.block _ (heap_lt HX0.out)).trans HX0.out)
    obtain ⟨y0, y1, y2, y3⟩ := box4t ((hV.block _ (heap_lt HY0.out)).trans HY0.out)
    exact ⟨x0, x1, x2, x3, y0, y1, y2, y3⟩)
  clear hv hv' hW
  go_enter Try.func14, Try.ntmps14
  go_upto_region 1 with fail
  rw [← HW.out]
  refine wp_region_held_drew (S := fun w1 => w1.cell? ⟨w.heap.size, 0, none⟩ = some (.int .i64 k0) ∧ w1.cell? ⟨w.heap.size, 1, none⟩ = some (.int .i64 n0) ∧ w1.cell? ⟨w.heap.size, 2, none⟩ = some (.string s0) ∧ w1.cell? ⟨w.heap.size, 3, none⟩ = some (.slice A0 m0 c0) ∧ w1.cell? ⟨w.heap.size + 1, 0, none⟩ = some (.int .i64 k9) ∧ w1.cell? ⟨w.heap.size + 1, 1, none⟩ = some (.int .i64 n9) ∧ w1.cell? ⟨w.heap.size + 1, 2, none⟩ = some (.string s9) ∧ w1.cell? ⟨w.heap.size + 1, 3, none⟩ = some (.slice A9 m9 c9)) (by kernel_rfl) ?Srv (fun hH0 => ?Brv)
  case Srv => (exact SS.out _ B0.out)
  refine wpAnyH_take (i := 0) (oi := { dst := some 5, op := Go.Op.load 24 (Go.Operand.tmp 2), type := 24, pos := "ref.go:119", after := #[], guard := none }) (v := ?vrv0) rfl (by kernel_rfl) (by kernel_rfl) (by kernel_rfl) (fun _ _ _ h => h) (Or.inl ⟨by rfl, ?hyrv0⟩) (by assumption) ?restrv0
  case hyrv0 => (intro w hSw; (try dsimp only at hSw); go_simp; try with_reducible rfl)
  try simp only [Act.put, List.setIfInBounds_toArray, List.set_cons_zero, List.set_cons_succ]
  refine wpAnyH_take (i := 1) (oi := { dst := some 6, op := Go.Op.load 24 (Go.Operand.tmp 2), type := 24, pos := "ref.go:119", after := #[], guard := none }) (v := ?vrv1) rfl (by kernel_rfl) (by kernel_rfl) (by kernel_rfl) (fun _ _ _ h => h) (Or.inl ⟨by rfl, ?hyrv1⟩) (by assumption) ?restrv1
  case hyrv1 => (intro w hSw; (try dsimp only at hSw); go_simp; try with_reducible rfl)
  try simp only [Act.put, List.setIfInBounds_toArray, List.set_cons_zero, List.set_cons_succ]
  refine wpAnyH_take (i := 4) (oi := { dst := some 9, op := Go.Op.load 24 (Go.Operand.tmp 3), type := 24, pos := "ref.go:119", after := #[], guard := none }) (v := ?vrv4) rfl (by kernel_rfl) (by kernel_rfl) (by kernel_rfl) (fun _ _ _ h => h) (Or.inl ⟨by rfl, ?hyrv4⟩) (by assumption) ?restrv4
  case hyrv4 => (intro w hSw; (try dsimp only at hSw); go_simp; try with_reducible rfl)
  try simp only [Act.put, List.setIfInBounds_toArray, List.set_cons_zero, List.set_cons_succ]
  refine wpAnyH_take (i := 5) (oi := { dst := some 10, op := Go.Op.load 24 (Go.Operand.tmp 3), type := 24, pos := "ref.go:119", after := #[], guard := none }) (v := ?vrv5) rfl (by kernel_rfl) (by kernel_rfl) (by kernel_rfl) (fun _ _ _ h => h) (Or.inl ⟨by rfl, ?hyrv5⟩) (by assumption) ?restrv5
  case hyrv5 => (intro w hSw; (try dsimp only at hSw); go_simp; try with_reducible rfl)
  try simp only [Act.put, List.setIfInBounds_toArray, List.set_cons_zero, List.set_cons_succ]
  refine wpAnyH_ready (rs := [2]) (by kernel_rfl) (by simp) ?_
  refine AllReadyH.cons (o := { dst := some 7, op := Go.Op.call { callee := Go.Callee.value (Go.Operand.func 8), args := #[Go.Operand.tmp 6], argTypes := #[24] }, type := 29, pos := "ref.go:119", after := #[{ on := 1, ground := Go.Ground.data }], guard := none }) rfl (fun K hK => ?_) ?nilrv2
  case nilrv2 => exact AllReadyH.nil
  go_simp
  (refine (vars_any t ht _ _ _ (HV.out.below B0.out)).mono ?_)
  rintro e w2 ⟨⟨A2, c2, rfl, ho2⟩, hb2⟩
  have B2 := Lib.hid (B0.out.trans (hb2.mono B0.out.size))
  have O2 := Lib.hid ho2
  clear ho2 hb2
  go_wp2_with fail
  refine hK.out _ _ ?Srv2 (fun hH1 => ?restrv2)
  case Srv2 => (exact SS.out _ B2.out)
  clear hK K
  try simp only [Act.put, List.setIfInBounds_toArray, List.set_cons_zero, List.set_cons_succ]
  refine wpAnyH_ready (rs := [3]) (by kernel_rfl) (by simp) ?_
  refine AllReadyH.cons (o := { dst := some 8, op := Go.Op.call { callee := Go.Callee.value (Go.Operand.func 29), args := #[Go.Operand.tmp 5, Go.Operand.tmp 7], argTypes := #[24, 29] }, type := 24, pos := "ref.go:119", after := #[{ on := 0, ground := Go.Ground.data }, { on := 2, ground := Go.Ground.data }, { on := 2, ground := Go.Ground.chain }], guard := none }) rfl (fun K hK => ?_) ?nilrv3
  case nilrv3 => exact AllReadyH.nil
  go_simp
  (refine (numbered_any O2.out.irow (varsT_few1 ht) t ht.thin _ _ ((HV.out.below B2.out).more fun _ _ => trivial) (Below.refl _ _)).mono ?_)
  rintro e w3 ⟨⟨v3, rfl, ht3⟩, hb3⟩
  have B3 := Lib.hid (B2.out.trans (hb3.mono B2.out.size))
  have T3 := Lib.hid ht3
  clear ht3 hb3
  go_wp2_with fail
  refine hK.out _ _ ?Srv3 (fun hH2 => ?restrv3)
  case Srv3 => (exact SS.out _ B3.out)
  clear hK K
  try simp only [Act.put, List.setIfInBounds_toArray, List.set_cons_zero, List.set_cons_succ]
  refine wpAnyH_ready (rs := [6]) (by kernel_rfl) (by simp) ?_
  refine AllReadyH.cons (o := { dst := some 11, op := Go.Op.call { callee := Go.Callee.value (Go.Operand.func 8), args := #[Go.Operand.tmp 10], argTypes := #[24] }, type := 29, pos := "ref.go:119", after := #[{ on := 5, ground := Go.Ground.data }, { on := 3, ground := Go.Ground.chain }], guard := none }) rfl (fun K hK => ?_) ?nilrv6
  case nilrv6 => exact AllReadyH.nil
  go_simp
  (refine (vars_any u hu _ _ _ (HV2.out.below B3.out)).mono ?_)
  rintro e w4 ⟨⟨A4, c4, rfl, ho4⟩, hb4⟩
  have B4 := Lib.hid (B3.out.trans (hb4.mono B3.out.size))
  have O4 := Lib.hid ho4
  have T4 := Lib.hid (T3.out.below hb4)
  clear ho4 hb4
  go_wp2_with fail
  refine hK.out _ _ ?Srv6 (fun hH3 => ?restrv6)
  case Srv6 => (exact SS.out _ B4.out)
  clear hK K
  try simp only [Act.put, List.setIfInBounds_toArray, List.set_cons_zero, List.set_cons_succ]
  refine wpAnyH_ready (rs := [7]) (by kernel_rfl) (by simp) ?_
  refine AllReadyH.cons (o := { dst := some 12, op := Go.Op.call { callee := Go.Callee.value (Go.Operand.func 29), args := #[Go.Operand.tmp 9, Go.Operand.tmp 11], argTypes := #[24, 29] }, type := 24, pos := "ref.go:119", after := #[{ on := 4, ground := Go.Ground.data }, { on := 6, ground := Go.Ground.data }, { on := 6, ground := Go.Ground.chain }], guard := none }) rfl (fun K hK => ?_) ?nilrv7
  case nilrv7 => exact AllReadyH.nil
  go_simp
  (refine (numbered_any O4.out.irow (varsT_few1 hu) u hu.thin _ _ ((HV2.out.below B4.out).more fun _ _ => trivial) (Below.refl _ _)).mono ?_)
  rintro e w5 ⟨⟨v5, rfl, ht5⟩, hb5⟩
  have B5 := Lib.hid (B4.out.trans (hb5.mono B4.out.size))
  have T5 := Lib.hid (T4.out.below hb5)
  have U5 := Lib.hid ht5
  clear ht5 hb5
  go_wp2_with fail
  refine hK.out _ _ ?Srv7 (fun hH4 => ?restrv7)
  case Srv7 => (exact SS.out _ B5.out)
  clear hK K
  try simp only [Act.put, List.setIfInBounds_toArray, List.set_cons_zero, List.set_cons_succ]
  refine wpAnyH_ready (rs := [8]) (by kernel_rfl) (by simp) ?_
  refine AllReadyH.cons (o := { dst := some 13, op := Go.Op.call { callee := Go.Callee.value (Go.Operand.func 28), args := #[Go.Operand.tmp 8, Go.Operand.tmp 12], argTypes := #[24, 24] }, type := 3, pos := "ref.go:119", after := #[{ on := 3, ground := Go.Ground.data }, { on := 7, ground := Go.Ground.data }, { on := 7, ground := Go.Ground.chain }], guard := none }) rfl (fun K hK => ?_) ?nilrv8
  case nilrv8 => exact AllReadyH.nil
  go_simp
  (refine (cmp_any _ _ (num_thin ht.thin) (num_thin hu.thin) _ _ _ _ _ T5.out U5.out).mono ?_)
  rintro e w6 ⟨⟨z, rfl, hz, _, _⟩, hb6⟩
  have B6 := Lib.hid (B5.out.trans (hb6.mono B5.out.size))
  have HZ := Lib.hid hz
  clear hz hb6
  go_wp2_with fail
  refine hK.out _ _ ?Srv8 (fun hH5 => ?restrv8)
  case Srv8 => (exact SS.out _ B6.out)
  clear hK K
  try simp only [Act.put, List.setIfInBounds_toArray, List.set_cons_zero, List.set_cons_succ]
  refine wpAnyH_take (i := 9) (oi := { dst := some 14, op := Go.Op.binOp Go.BinOp.eql 3 (Go.Operand.tmp 13) (Go.Operand.const (Go.Value.int Go.IntKind.i64 0)) 3, type := 4, pos := "ref.go:119", after := #[{ on := 8, ground := Go.Ground.data }], guard := none }) (v := ?vrv9) rfl (by kernel_rfl) (by kernel_rfl) (by kernel_rfl) (fun _ _ _ h => h) (Or.inl ⟨by rfl, ?hyrv9⟩) (by assumption) ?restrv9
  case hyrv9 => (intro w hSw; (try dsimp only at hSw); go_simp; try with_reducible rfl)
  try simp only [Act.put, List.setIfInBounds_toArray, List.set_cons_zero, List.set_cons_succ]
  refine wpAnyH_take (i := 10) (oi := { dst := some 4, op := Go.Op.assign (Go.Operand.tmp 14), type := 4, pos := "ref.go:119", after := #[{ on := 9, ground := Go.Ground.data }, { on := 8, ground := Go.Ground.chain }, { on := 0, ground := Go.Ground.phase }, { on := 1, ground := Go.Ground.phase }, { on := 2, ground := Go.Ground.phase }, { on := 3, ground := Go.Ground.phase }, { on := 4, ground := Go.Ground.phase }, { on := 5, ground := Go.Ground.phase }, { on := 6, ground := Go.Ground.phase }, { on := 7, ground := Go.Ground.phase }, { on := 8, ground := Go.Ground.phase }, { on := 9, ground := Go.Ground.phase }], guard := none }) (v := ?vrv10) rfl (by kernel_rfl) (by kernel_rfl) (by kernel_rfl) (fun _ _ _ h => h) (Or.inl ⟨by rfl, ?hyrv10⟩) (by assumption) ?restrv10
  case hyrv10 => (intro w hSw; (try dsimp only at hSw); go_simp; try with_reducible rfl)
  try simp only [Act.put, List.setIfInBounds_toArray, List.set_cons_zero, List.set_cons_succ]
  refine wpAnyH_done (by kernel_rfl) ?_ _
  go_wp2_with fail
  go_ret
  exact ⟨⟨_, rfl, Lib.hid ⟨fun h => HZ.out.1 (by simpa using h), fun h => by simpa using HZ.out.2 h⟩⟩, BX.out.trans (B6.out.mono BX.out.size)⟩
end Go.Proofs.Ytlgeepjlnjlgdaa
