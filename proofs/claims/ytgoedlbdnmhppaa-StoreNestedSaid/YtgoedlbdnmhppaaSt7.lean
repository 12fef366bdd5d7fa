/- The program's store: its cells as bindings; walk. -/
import Derived.Test.YtgoedlbdnmhppaaSt6
import Derived.Test.YtgoedlbdnmhppaaMa
import Derived.Deep.QuietTactic
import Derived.BigQuiet
namespace Go.Proofs.Ytgoedlbdnmhppaa
open Go.RowKit

theorem TP.sf {B : Nat} {w w' : World} {S : Nat → Prop} {t : T} {v : Value} (ht : TP w S t v) (h : SF B w w') : TP w' S t v :=
  ht.keep fun b cs f hS hh => ⟨h.far b _ hh (fun cs' ty' f' e => by injection e with _ e; subst e; decide), hS⟩
/-- The cells tell the bindings. -/
structure CL (w : World) (C : List CV) (L : Bs) : Prop where
  ok : EnvOk L
  inn : ∀ p ∈ L, p.1 < (C.length : Int)
  kn : ∀ p ∈ L, ∀ v, p.2.hasV v → v < (C.length : Int)
  cell : ∀ (i : Nat) (c : CV), C[i]? = some c → (findB L (i : Int) = none → c.b = false) ∧ ∀ t, findB L (i : Int) = some t → c.b = true ∧ TP w (fun _ => True) t (.agg #[.int .i64 c.to.k, .int .i64 c.to.n, .string c.to.s, .slice c.to.A c.to.m c.to.c])
theorem CL.keep {w w' : World} {C : List CV} {L : Bs} (h : CL w C L) (hk : ∀ {t : T} {v : Value}, TP w (fun _ => True) t v → TP w' (fun _ => True) t v) : CL w' C L :=
  ⟨h.ok, h.inn, h.kn, fun i c hc => ⟨(h.cell i c hc).1, fun t ht => ⟨((h.cell i c hc).2 t ht).1, hk ((h.cell i c hc).2 t ht).2⟩⟩⟩
theorem CL.sf {B : Nat} {w w' : World} {C : List CV} {L : Bs} (h : CL w C L) (hf : SF B w w') : CL w' C L := h.keep fun ht => ht.sf hf
theorem CL.below {w w' : World} {C : List CV} {L : Bs} (h : CL w C L) (hb : Below w.heap.size w w') : CL w' C L := h.keep fun ht => ht.below hb
theorem CL.bound {w : World} {C : List CV} {L : Bs} (h : CL w C L) {i : Nat} {c : CV} (hc : C[i]? = some c) : c.b = (findB L (i : Int)).isSome := by
  have := h.cell i c hc
  cases hf : findB L (i : Int) with
  | none => rw [this.1 hf]; rfl
  | some t => rw [(this.2 t hf).1]; rfl
theorem CL.far {w : World} {C : List CV} {L : Bs} (h : CL w C L) {n : Int} (hn : (C.length : Int) ≤ n) : findB L n = none := by
  cases hf : findB L n with
  | none => rfl
  | some t => have := h.inn _ (findB_mem hf); simp only at this; omega
/-- One variable's cell in memory. -/
theorem SM.cellAt {w : World} {B sb : Nat} {C : List CV} {R : List (CV × Nat)} {M : List (Nat × Nat)} (h : SM w B sb C R M) {n : Nat} {c : CV} (ho : C[n]? = some c) :
    ∃ (g0 c0 : Nat) (cs : Array Value), w.cell? ⟨sb, 0, none⟩ = some (.slice (some ⟨g0, 0, none⟩) C.length c0) ∧ sb < w.heap.size ∧ w.heap[g0]? = some (.cells cs 70 (0, 0)) ∧ C.length ≤ c0 ∧ ∀ j u, c.vals[j]? = some u → w.cell? ⟨g0, n * 9 + j, none⟩ = some u := by
  obtain ⟨A0, c0, A1, c1, A2, c2, hb, h0, h1, h2⟩ := h.ex
  obtain ⟨g0, rfl, hg0, ⟨cs0, hh0, hz0⟩, hc0, hel⟩ := own_elem cvals_len h0 (i := n) ho rfl
  exact ⟨g0, c0, cs0, cell_of_row w sb 0 _ _ _ hb, heap_lt hb, hh0, hc0, hel⟩
theorem SM.lenAt {w : World} {B sb : Nat} {C : List CV} {R : List (CV × Nat)} {M : List (Nat × Nat)} (h : SM w B sb C R M) :
    ∃ (A0 : Option Addr) (c0 : Nat), w.cell? ⟨sb, 0, none⟩ = some (.slice A0 C.length c0) ∧ sb < w.heap.size := by
  obtain ⟨A0, c0, A1, c1, A2, c2, hb, h0, h1, h2⟩ := h.ex
  exact ⟨A0, c0, cell_of_row w sb 0 _ _ _ hb, heap_lt hb⟩
theorem at_of_lt {C : List CV} {n : Nat} (h : n < C.length) : ∃ c, C[n]? = some c := ⟨_, List.getElem?_eq_getElem h⟩
theorem lt_of_at {α : Type} {C : List α} {n : Nat} {c : α} (h : C[n]? = some c) : n < C.length := by
  rcases Nat.lt_or_ge n C.length with h1 | h1
  · exact h1
  · rw [List.getElem?_eq_none h1] at h; cases h
/-- A variable's own number, from its value. -/
theorem TP.var_of {w : World} {S : Nat → Prop} {t : T} {n : Int} {s : ByteArray} {A : Option Addr} {m c : Nat} (ht : TP w S t (.agg #[.int .i64 1, .int .i64 n, .string s, .slice A m c])) (hok : t.ok) : t.var? = some n ∧ ∃ i : Nat, n = (i : Int) ∧ i < 1000 := by
  cases t with
  | nil => exact ht.elim
  | mk ku nu su mu au =>
    obtain ⟨_, _, e, _⟩ := ht
    injection e with e
    simp only [Array.mk.injEq, List.cons.injEq, and_true] at e
    obtain ⟨e1, e2, _⟩ := e
    injection e1 with _ e1
    injection e2 with _ e2
    subst e1; subst e2
    have := hok.var rfl
    exact ⟨var_iff.mpr ⟨rfl, rfl⟩, n.toNat, by omega, by omega⟩
theorem TP.novar_of {w : World} {S : Nat → Prop} {t : T} {k n : Int} {s : ByteArray} {A : Option Addr} {m c : Nat} (ht : TP w S t (.agg #[.int .i64 k, .int .i64 n, .string s, .slice A m c])) (hk : k ≠ 1) : t.var? = none := by
  cases t with
  | nil => exact ht.elim
  | mk ku nu su mu au =>
    obtain ⟨_, _, e, _⟩ := ht
    injection e with e
    simp only [Array.mk.injEq, List.cons.injEq, and_true] at e
    obtain ⟨e1, _⟩ := e
    injection e1 with _ e1
    subst e1
    simp [T.var?, hk]
/-- Going along a binding comes nearer to the end. -/
theorem msr_step {L : Bs} {r : Int → Nat} (hr : ∀ p ∈ L, ∀ v, p.2.hasV v → r v < r p.1) {n : Int} {x : T} (hx : findB L n = some x) {w : World} {S : Nat → Prop} {k q : Int} {s : ByteArray} {A : Option Addr} {m c : Nat} (ht : TP w S x (.agg #[.int .i64 k, .int .i64 q, .string s, .slice A m c])) :
    (if k = 1 then cntR L r (r q + 1) else 0) < cntR L r (r n + 1) := by
  have h2 := cntR_lt L r (findB_mem hx)
  simp only at h2
  split
  · rename_i hq
    have hv2 : x.hasV q := by
      cases x with
      | nil => exact ht.elim
      | mk ku nu su mu au =>
        obtain ⟨_, _, e, _⟩ := ht
        injection e with e
        simp only [Array.mk.injEq, List.cons.injEq, and_true] at e
        obtain ⟨e1, e2, _⟩ := e
        injection e1 with _ e1
        injection e2 with _ e2
        subst e1; subst e2
        exact .inl ⟨hq, rfl⟩
    have h1 := hr _ (findB_mem hx) q hv2
    have h3 := cntR_mono L r (k := r q + 1) (k' := r n) h1
    omega
  · omega
theorem put_new0 {w wr : World} {B g : Nat} {u0 u1 u2 u3 : Value} {ty : TypeId} {m : Nat × Nat} (h : wr.heap[g]? = some (.cells #[u0, u1, u2, u3] ty m)) (hB : B ≤ g) (hb : Below B w wr) (x0 x1 x2 x3 : Value) :
    ((((wr.setCell ⟨g, 0, none⟩ x0).setCell ⟨g, 1, none⟩ x1).setCell ⟨g, 2, none⟩ x2).setCell ⟨g, 3, none⟩ x3).heap[g]? = some (.cells #[x0, x1, x2, x3] ty m) ∧
    (∀ k, k ≠ g → ((((wr.setCell ⟨g, 0, none⟩ x0).setCell ⟨g, 1, none⟩ x1).setCell ⟨g, 2, none⟩ x2).setCell ⟨g, 3, none⟩ x3).heap[k]? = wr.heap[k]?) ∧
    Below B w ((((wr.setCell ⟨g, 0, none⟩ x0).setCell ⟨g, 1, none⟩ x1).setCell ⟨g, 2, none⟩ x2).setCell ⟨g, 3, none⟩ x3) := by
  obtain ⟨p0, p1, p2, p3⟩ := box_put4 h x0 x1 x2 x3 rfl
  exact ⟨p0, fun k hk => p2 k hk, p3 _ _ hB hb⟩
theorem bel_drew {B : Nat} {a w : World} (h : Below B a w) : Below B a w.drew := h.drew
set_option maxRecDepth 100000 in
set_option maxHeartbeats 4000000 in
theorem swalk_any {w0 w : World} {B sb : Nat} {C : List CV} {R : List (CV × Nat)} {M : List (Nat × Nat)} {L : Bs} (h : SM w0 B sb C R M) (hc : CL w0 C L) {t : T} {v : Value} (hv : TP w0 (fun _ => True) t v) (ht : t.ok) (hb0 : Below w0.heap.size w0 w) :
    Calls Try.prog 29 #[.pointer (some ⟨sb, 0, none⟩), v] w fun e w' => (∃ v', e = .returned v' ∧ TP w0 (fun _ => True) (walkN L t) v') ∧ Below w.heap.size w w' := by
  obtain ⟨k, n, s, A, m, c, rfl⟩ := hv.agg
  have H := Lib.hid (h.below hb0)
  have HC := Lib.hid hc
  have HV := Lib.hid hv
  have HB0 := Lib.hid hb0
  obtain ⟨_, _, _, hls⟩ := (h.below hb0).lenAt
  clear h hc hv hb0
  go_enter Try.func29, Try.ntmps29
  obtain ⟨r, hr⟩ := HC.out.ok.acyc
  have HR := Lib.hid hr
  clear hr
  go_wp2_with fail
  go_loopw [28] (fun _ wr => ∃ (j : Nat) (k' n' : Int) (s' : ByteArray) (A' : Option Addr) (m' c' : Nat), wr.heap[w.heap.size]? = some (.cells #[.int .i64 k', .int .i64 n', .string s', .slice A' m' c'] 40 (0, 0)) ∧
    TP w0 (fun _ => True) (walkF L j t) (.agg #[.int .i64 k', .int .i64 n', .string s', .slice A' m' c']) ∧ wr.heap[w.heap.size + 1]? = some (.cells #[.int .i64 0, .int .i64 0, .string ⟨#[]⟩, .slice none 0 0] 40 (0, 0)) ∧ Below w.heap.size w wr) (fun _ wr => msrW L r w.heap.size wr)
  case atStart =>
    have B0 := ((Below.refl w.heap.size w).alloc (Nat.le_refl _) (Obj.cells #[.int .i64 k, .int .i64 n, .string s, .slice A m c] 40)).alloc (by simp) (Obj.cells #[.int .i64 0, .int .i64 0, .string ⟨#[]⟩, .slice none 0 0] 40)
    refine ⟨0, k, n, s, A, m, c, ?_, ?_, ?_, B0⟩
    · exact (Below.heap_alloc _ _ _ (by simp)).trans (heap_alloc_new _ _)
    · exact HV.out
    · exact (congrArg _ (by simp)).trans (heap_alloc_new _ _)
  case round =>
    obtain ⟨j, k', n', s', A', m', c', hx, htp, hy, hb⟩ := hrel
    have HX := Lib.hid hx
    have HY := Lib.hid hy
    have HB := Lib.hid hb
    have HT := Lib.hid htp
    have HS := Lib.hid (H.out.below hb)
    have hok := HC.out.ok.walkF_ok ht j
    obtain ⟨x0, x1, x2, x3⟩ := box4 hx
    obtain ⟨y0, y1, y2, y3⟩ := box4 hy
    have xf := unfrozen hx
    have yf := unfrozen hy
    have hgl := heap_lt hx
    have hgl1 := heap_lt hy
    have hsl := Nat.lt_of_lt_of_le hls hb.size
    have hsz := hb.size
    clear hx hy hb htp
    have P1 := Lib.hid (fun nq => put_new0 (w := w) (wr := wr.drewN nq) HY.out (Nat.le_succ _) (bel_drewN HB.out nq) (.int .i64 k') (.int .i64 n') (.string s') (.slice A' m' c'))
    cases hk : (k' == 1) with
    | true =>
      obtain rfl : k' = 1 := by simpa using hk
      obtain ⟨hv1, i, rfl, hi⟩ := HT.out.var_of hok
      have HV1 := Lib.hid hv1
      have HM := Lib.hid (show msrW L r w.heap.size wr = cntR L r (r (i : Int) + 1) by rw [msrW_of HX.out, if_pos rfl])
      clear hv1 hok
      by_cases hin : i < C.length
      · obtain ⟨c1, hc1⟩ := at_of_lt hin
        obtain ⟨g0, c0, cs, b0, hl, hh0, hcc, hel⟩ := HS.out.cellAt hc1
        have hbb := HC.out.bound hc1
        have hcell := HC.out.cell i c1 hc1
        obtain ⟨q, ⟨tk, tn, ts, tA, tm, tc⟩, ⟨ak, an, as_, aA, am, ac⟩⟩ := c1
        have o0 := hel 0 _ rfl
        have o1 := hel 1 _ rfl
        have o2 := hel 2 _ rfl
        have o3 := hel 3 _ rfl
        have o4 := hel 4 _ rfl
        simp only [Nat.add_zero] at o0
        have hl0 := heap_lt hh0
        have hini : (i : Int) < (C.length : Int) := by omega
        cases q with
        | true =>
          obtain ⟨x, hx⟩ : ∃ x, findB L (i : Int) = some x := by
            cases hf : findB L (i : Int) with
            | none => rw [hf] at hbb; cases hbb
            | some x => exact ⟨x, rfl⟩
          have hxt := (hcell.2 x hx).2
          have HSX := Lib.hid (show walkF L (j + 1) t = x by simp only [walkF, stepW, HV1.out, hx])
          have HL := Lib.hid (msr_step HR.out hx hxt)
          have HXT := Lib.hid hxt
          have P2 := Lib.hid (put_new0 HX.out (Nat.le_refl _) HB.out (.int .i64 tk) (.int .i64 tn) (.string ts) (.slice tA tm tc))
          clear hel hh0 hcell hbb hc1 hx hxt
          go_wp2_with fail
          go_quiet (fail)
          go_wp2_with fail
          go_region
          go_wp2_with fail
          go_roundw
          case rel =>
            exact ⟨j + 1, tk, tn, ts, tA, tm, tc, P2.out.1, by rw [HSX.out]; exact HXT.out, (P2.out.2.1 _ (by omega)).trans HY.out, by first | exact bel_drew (bel_drewN P2.out.2.2 _) | exact bel_drewN P2.out.2.2 _ | exact bel_drew P2.out.2.2⟩
          case measure =>
            rw [HM.out]; exact Nat.lt_of_le_of_lt (Nat.le_of_eq (msrW_of P2.out.1)) HL.out
        | false =>
          have HD := Lib.hid (show walkN L t = walkF L j t from walkN_eq HC.out.ok (by
            intro n2 hn2
            rw [HV1.out] at hn2
            injection hn2 with hn2
            subst hn2
            cases hf : findB L (i : Int) with
            | none => rfl
            | some x => rw [hf] at hbb; cases hbb))
          clear hel hh0 hcell hbb hc1
          go_wp2_with fail
          go_quiet (fail)
          go_wp2_with fail
          obtain ⟨p0, p1, p2, p3⟩ := box4 (P1.out nq).1
          refine bodyPost_ret (v := .agg #[.int .i64 1, .int .i64 (i : Int), .string s', .slice A' m' c']) (by simp [results, go_sem, p0, p1, p2, p3]) rfl ?_
          rw [HD.out]
          exact ⟨⟨_, rfl, HT.out⟩, (P1.out nq).2.2⟩
      · obtain ⟨A0, c0, b0, hl⟩ := HS.out.lenAt
        have HD := Lib.hid (show walkN L t = walkF L j t from walkN_eq HC.out.ok (by
          intro n2 hn2
          rw [HV1.out] at hn2
          injection hn2 with hn2
          subst hn2
          exact HC.out.far (by omega)))
        have hini : ¬ (i : Int) < (C.length : Int) := by omega
        go_wp2_with fail
        go_quiet (fail)
        go_wp2_with fail
        obtain ⟨p0, p1, p2, p3⟩ := box4 (P1.out nq).1
        refine bodyPost_ret (v := .agg #[.int .i64 1, .int .i64 (i : Int), .string s', .slice A' m' c']) (by simp [results, go_sem, p0, p1, p2, p3]) rfl ?_
        rw [HD.out]
        exact ⟨⟨_, rfl, HT.out⟩, (P1.out nq).2.2⟩
    | false =>
      have hk1 : k' ≠ 1 := by simpa using hk
      have HD := Lib.hid (show walkN L t = walkF L j t from walkN_eq HC.out.ok (by
        intro n2 hn2
        rw [HT.out.novar_of hk1] at hn2
        cases hn2))
      clear hk1
      go_wp2_with fail
      go_quiet (fail)
      go_wp2_with fail
      obtain ⟨p0, p1, p2, p3⟩ := box4 (P1.out nq).1
      refine bodyPost_ret (v := .agg #[.int .i64 k', .int .i64 n', .string s', .slice A' m' c']) (by simp [results, go_sem, p0, p1, p2, p3]) rfl ?_
      rw [HD.out]
      exact ⟨⟨_, rfl, HT.out⟩, (P1.out nq).2.2⟩
end Go.Proofs.Ytgoedlbdnmhppaa
