/- unify.Env in memory; the walk through unify.walk. -/
import Derived.Test.YtjjkigphfijnbaaUni1
import Derived.Test.YtjjkigphfijnbaaMap
import Derived.Deep.RegionLaw
import Derived.Deep.RegionHeld3
namespace Go.Proofs.Ytjjkigphfijnbaa
open Go.RowKit

def zT : Value := .agg #[.int .i64 0, .int .i64 0, .string ⟨#[]⟩, .slice none 0 0]
theorem zeroT (w : World) : (zeroValue 34).run Try.prog w = .ok (.agg #[.int .i64 0, .int .i64 0, .string ⟨#[]⟩, .slice none 0 0]) w := by kernel_rfl
/-- The program's bindings in memory. -/
structure EnvP (w : World) (eb mb N : Nat) (L : Bs) : Prop where
  blk : w.heap[eb]? = some (.cells #[.map (some mb)] 64 (0, 0))
  few : N ≤ 1000000
  map : ∃ M, IM w mb N M ∧ ∀ i, (findB L i = none → M i = none) ∧ ∀ t, findB L i = some t → ∃ v, M i = some v ∧ TP w (fun _ => True) t v
  ok : EnvOk L
theorem EnvP.lt {w : World} {eb mb N : Nat} {L : Bs} (h : EnvP w eb mb N L) : eb < w.heap.size ∧ mb < w.heap.size := by
  obtain ⟨M, hM, _⟩ := h.map
  exact ⟨heap_lt h.blk, hM.lt⟩
theorem EnvP.below {w w' : World} {eb mb N : Nat} {L : Bs} (h : EnvP w eb mb N L) (hb : Below w.heap.size w w') : EnvP w' eb mb N L := by
  obtain ⟨M, hM, hL⟩ := h.map
  refine ⟨(hb.block eb (heap_lt h.blk)).trans h.blk, h.few, ⟨M, hM.keep (hb.block mb hM.lt), fun i => ⟨(hL i).1, fun t ht => ?_⟩⟩, h.ok⟩
  obtain ⟨v, h1, h2⟩ := (hL i).2 t ht
  exact ⟨v, h1, h2.below hb⟩
/-- A look-up in the program's bindings. -/
theorem EnvP.look {w : World} {eb mb N : Nat} {L : Bs} (h : EnvP w eb mb N L) {n : Int} (h0 : 0 ≤ n) (h1 : n < 1000) :
    ∃ (b : Bool) (k0 k1 : Int) (s : ByteArray) (A : Option Addr) (m c : Nat), (∀ W : World, W.heap[mb]? = w.heap[mb]? → (Instr.lookup 62 (.map (some mb)) (.int .i64 n) true).run Try.prog W = .ok (.tuple #[.agg #[.int .i64 k0, .int .i64 k1, .string s, .slice A m c], .bool b]) W) ∧
      ((b = true ∧ ∃ t, findB L n = some t ∧ TP w (fun _ => True) t (.agg #[.int .i64 k0, .int .i64 k1, .string s, .slice A m c])) ∨ (b = false ∧ findB L n = none)) := by
  obtain ⟨M, hM, hL⟩ := h.map
  have hi : I64 n := ⟨by omega, by omega⟩
  obtain ⟨l1, l2⟩ := hL n
  cases hf : findB L n with
  | none =>
    refine ⟨false, 0, 0, ⟨#[]⟩, none, 0, 0, fun W hW => ?_, .inr ⟨rfl, rfl⟩⟩
    have := (hM.keep hW).look Try.underlying62 (zeroT W) hi
    rw [this, l1 hf]
    rfl
  | some t =>
    obtain ⟨v, e1, e2⟩ := l2 t hf
    obtain ⟨k0, k1, s, A, m, c, rfl⟩ := e2.agg
    refine ⟨true, k0, k1, s, A, m, c, fun W hW => ?_, .inl ⟨rfl, t, rfl, e2⟩⟩
    have := (hM.keep hW).look Try.underlying62 (zeroT W) hi
    rw [this, e1]
    rfl
def msrW (L : Bs) (r : Int → Nat) (g : Nat) (w : World) : Nat := match w.cell? ⟨g, 0, none⟩, w.cell? ⟨g, 1, none⟩ with
  | some (.int _ k), some (.int _ n) => if k = 1 then cntR L r (r n + 1) else 0
  | _, _ => 0
theorem msrW_of {L : Bs} {r : Int → Nat} {g : Nat} {w : World} {k n : Int} {s x : Value} {ty : TypeId} {m : Nat × Nat} (h : w.heap[g]? = some (.cells #[.int .i64 k, .int .i64 n, s, x] ty m)) : msrW L r g w = if k = 1 then cntR L r (r n + 1) else 0 := by
  obtain ⟨h0, h1, _⟩ := box4t h
  simp only [msrW, h0, h1]
/-- A box, written anew, and a new block behind it. -/
theorem put_new {w wr : World} {B g : Nat} {u0 u1 u2 u3 : Value} {ty : TypeId} {m : Nat × Nat} (h : wr.heap[g]? = some (.cells #[u0, u1, u2, u3] ty m)) (hB : B ≤ g) (hb : Below B w wr) (x0 x1 x2 x3 : Value) (o : Obj) :
    ((((((wr.setCell ⟨g, 0, none⟩ x0).setCell ⟨g, 1, none⟩ x1).setCell ⟨g, 2, none⟩ x2).setCell ⟨g, 3, none⟩ x3).alloc o).heap[g]? = some (.cells #[x0, x1, x2, x3] ty m)) ∧
    (∀ k, k ≠ g → k < wr.heap.size → (((((wr.setCell ⟨g, 0, none⟩ x0).setCell ⟨g, 1, none⟩ x1).setCell ⟨g, 2, none⟩ x2).setCell ⟨g, 3, none⟩ x3).alloc o).heap[k]? = wr.heap[k]?) ∧
    Below B w (((((wr.setCell ⟨g, 0, none⟩ x0).setCell ⟨g, 1, none⟩ x1).setCell ⟨g, 2, none⟩ x2).setCell ⟨g, 3, none⟩ x3).alloc o) := by
  obtain ⟨p0, p1, p2, p3⟩ := box_put4 h x0 x1 x2 x3 rfl
  have hg := heap_lt h
  refine ⟨(Below.heap_alloc _ _ _ (by omega)).trans p0, fun k hk hk2 => (Below.heap_alloc _ _ _ (by omega)).trans (p2 k hk), (p3 _ _ hB hb).alloc (by have := hb.size; omega) _⟩
set_option maxRecDepth 100000 in
set_option maxHeartbeats 4000000 in
theorem uwalk_any {w0 w : World} {eb mb N : Nat} {L : Bs} (h : EnvP w0 eb mb N L) {t : T} {v : Value} (hv : TP w0 (fun _ => True) t v) (ht : t.ok) (hb0 : Below w0.heap.size w0 w) :
    Calls Try.prog 37 #[.pointer (some ⟨eb, 0, none⟩), v] w fun e w' => (∃ v', e = .returned v' ∧ TP w0 (fun _ => True) (walkN L t) v') ∧ Below w.heap.size w w' := by
  obtain ⟨k, n, s, A, m, c, rfl⟩ := hv.agg
  have H := Lib.hid h
  have HV := Lib.hid hv
  have HB0 := Lib.hid hb0
  obtain ⟨hle, hlm⟩ := (h.below hb0).lt
  obtain ⟨_, hlm0⟩ := h.lt
  clear h hv hb0
  go_enter Try.func37, Try.ntmps37
  obtain ⟨r, hr⟩ := H.out.ok.acyc
  have HR := Lib.hid hr
  clear hr
  go_wp2_with fail
  go_loopw [6] (fun _ wr => ∃ (j : Nat) (k' n' : Int) (s' : ByteArray) (A' : Option Addr) (m' c' : Nat), wr.heap[w.heap.size]? = some (.cells #[.int .i64 k', .int .i64 n', .string s', .slice A' m' c'] 34 (0, 0)) ∧
    TP w0 (fun _ => True) (walkF L j t) (.agg #[.int .i64 k', .int .i64 n', .string s', .slice A' m' c']) ∧ wr.heap[w.heap.size + 1]? = some (.cells #[.int .i64 0, .int .i64 0, .string ⟨#[]⟩, .slice none 0 0] 34 (0, 0)) ∧ Below w.heap.size w wr) (fun _ wr => msrW L r w.heap.size wr)
  case atStart =>
    have B0 := ((Below.refl w.heap.size w).alloc (Nat.le_refl _) (Obj.cells #[.int .i64 k, .int .i64 n, .string s, .slice A m c] 34)).alloc (by simp) (Obj.cells #[.int .i64 0, .int .i64 0, .string ⟨#[]⟩, .slice none 0 0] 34)
    refine ⟨0, k, n, s, A, m, c, ?_, ?_, ?_, B0⟩
    · exact (Below.heap_alloc _ _ _ (by simp)).trans (heap_alloc_new _ _)
    · exact HV.out
    · exact (congrArg _ (by simp)).trans (heap_alloc_new _ _)
  case round =>
    obtain ⟨j, k', n', s', A', m', c', hx, htp, hy, hb⟩ := hrel
    have HX := Lib.hid hx
    have HY := Lib.hid hy
    have HB := Lib.hid hb
    have HT := Lib.hid htp
    have HW := Lib.hid ((H.out.below HB0.out).below hb)
    have hok := HW.out.ok.walkF_ok ht j
    have hsz := hb.size
    obtain ⟨x0, x1, x2, x3⟩ := box4 hx
    obtain ⟨y0, y1, y2, y3⟩ := box4 hy
    have e0 := cell_of_row wr eb 0 _ _ _ HW.out.blk
    have f0 : wr.frozen? ⟨eb, 0, none⟩ = false := by simp [World.frozen?, HW.out.blk]
    have xf : ∀ i, wr.frozen? ⟨w.heap.size, i, none⟩ = false := fun i => by simp [World.frozen?, HX.out]
    have yf : ∀ i, wr.frozen? ⟨w.heap.size + 1, i, none⟩ = false := fun i => by simp [World.frozen?, HY.out]
    obtain ⟨hel, hml⟩ := HW.out.lt
    have hgl := heap_lt hx
    have hgl1 := heap_lt hy
    clear hx hy hb htp
    cases hk : (k' == 1) with
    | true =>
      have hk1 : k' = 1 := by simpa using hk
      obtain ⟨u, hu⟩ : ∃ u, walkF L j t = u := ⟨_, rfl⟩
      have hvar : u.var? = some n' ∧ 0 ≤ n' ∧ n' < 1000 := by
        rw [hu] at HT hok
        cases u with
        | nil => exact HT.out.elim
        | mk ku nu su mu au =>
          obtain ⟨_, _, e, _⟩ := HT.out
          injection e with e
          simp only [Array.mk.injEq, List.cons.injEq, and_true] at e
          obtain ⟨e1, e2, _⟩ := e
          injection e1 with _ e1
          injection e2 with _ e2
          subst e1; subst e2
          have := hok.var hk1
          exact ⟨var_iff.mpr ⟨hk1, rfl⟩, this.1, this.2.1⟩
      obtain ⟨hv1, hn0, hn1⟩ := hvar
      obtain ⟨b, q0, q1, qs, qA, qm, qc, hrun, hb⟩ := H.out.look hn0 hn1
      have HRUN := fun (W : World) (hW : W.heap[mb]? = wr.heap[mb]?) => hrun W (hW.trans ((HB.out.block mb hlm).trans (HB0.out.block mb hlm0)))
      have HBB := Lib.hid hb
      clear hrun hb
      have hms : msrW L r w.heap.size wr = cntR L r (r n' + 1) := by rw [msrW_of HX.out, if_pos hk1]
      have HM := Lib.hid hms
      have R0 := HRUN wr.drew rfl
      have R1 := HRUN (wr.alloc (Obj.cells #[.int .i64 0, .int .i64 0, .string ⟨#[]⟩, .slice none 0 0] 34)).drew (Below.heap_alloc _ _ _ hml)
      have P := Lib.hid (put_new HX.out (Nat.le_refl _) HB.out (.int .i64 q0) (.int .i64 q1) (.string qs) (.slice qA qm qc) (Obj.cells #[.int .i64 q0, .int .i64 q1, .string qs, .slice qA qm qc] 34))
      have HU := Lib.hid hu
      have HV1 := Lib.hid hv1
      clear HRUN hms hu hv1 hk1
      cases b with
      | true =>
        obtain ⟨x, hx, hxt⟩ : ∃ x, findB L n' = some x ∧ TP w0 (fun _ => True) x (.agg #[.int .i64 q0, .int .i64 q1, .string qs, .slice qA qm qc]) := by
          rcases HBB.out with ⟨_, h⟩ | ⟨h, _⟩
          · exact h
          · cases h
        have HS := Lib.hid (show walkF L (j + 1) t = x by simp only [walkF, HU.out, stepW, HV1.out, hx])
        have HL : Hid ((if q0 = 1 then cntR L r (r q1 + 1) else 0) < cntR L r (r n' + 1)) := Lib.hid (by
          have h2 := cntR_lt L r (findB_mem hx)
          simp only at h2
          split
          · rename_i hq
            have hv2 : x.hasV q1 := by
              cases x with
              | nil => exact hxt.elim
              | mk ku nu su mu au =>
                obtain ⟨_, _, e, _⟩ := hxt
                injection e with e
                simp only [Array.mk.injEq, List.cons.injEq, and_true] at e
                obtain ⟨e1, e2, _⟩ := e
                injection e1 with _ e1
                injection e2 with _ e2
                subst e1; subst e2
                exact .inl ⟨hq, rfl⟩
            have h1 := HR.out _ (findB_mem hx) q1 hv2
            have h3 := cntR_mono L r (k := r q1 + 1) (k' := r n') h1
            omega
          · omega)
        have HXT := Lib.hid hxt
        clear hx hxt
        go_wp2_with fail
        go_region_law fail
        all_goals go_wp2_with fail
        all_goals go_roundw
        all_goals first
          | exact ⟨j + 1, q0, q1, qs, qA, qm, qc, P.out.1, by rw [HS.out]; exact HXT.out, (P.out.2.1 _ (by omega) hgl1).trans HY.out, P.out.2.2.drew⟩
          | (rw [HM.out]; exact Nat.lt_of_le_of_lt (Nat.le_of_eq (msrW_of P.out.1)) HL.out)
      | false =>
        have HD := Lib.hid (show walkN L t = walkF L j t from walkN_eq H.out.ok (by
          rw [HU.out]
          intro n2 hn2
          rw [HV1.out] at hn2
          injection hn2 with hn2
          subst hn2
          rcases HBB.out with ⟨h, _⟩ | ⟨_, h⟩
          · cases h
          · exact h))
        have P1 := Lib.hid (box_put4 HY.out (.int .i64 k') (.int .i64 n') (.string s') (.slice A' m' c') rfl)
        have P2 := Lib.hid (put_new HY.out (Nat.le_succ _) HB.out (.int .i64 k') (.int .i64 n') (.string s') (.slice A' m' c') (Obj.cells #[.int .i64 q0, .int .i64 q1, .string qs, .slice qA qm qc] 34))
        go_wp2_with fail
        go_region_law fail
        all_goals go_wp2_with fail
        all_goals obtain ⟨p0, p1, p2, p3⟩ := box4 P1.out.1
        all_goals refine bodyPost_ret (v := .agg #[.int .i64 k', .int .i64 n', .string s', .slice A' m' c']) (by simp [results, go_sem, p0, p1, p2, p3, hgl1]) rfl ?_
        all_goals rw [HD.out]
        all_goals exact ⟨⟨_, rfl, HT.out⟩, P2.out.2.2.drew⟩
    | false =>
      have HD := Lib.hid (show walkN L t = walkF L j t from walkN_eq H.out.ok (by
        intro n2 hn2
        obtain ⟨u, hu⟩ : ∃ u, walkF L j t = u := ⟨_, rfl⟩
        rw [hu] at HT hn2
        cases u with
        | nil => exact HT.out.elim
        | mk ku nu su mu au =>
          obtain ⟨_, _, e, _⟩ := HT.out
          injection e with e
          simp only [Array.mk.injEq, List.cons.injEq, and_true] at e
          obtain ⟨e1, _⟩ := e
          injection e1 with _ e1
          have := (var_iff.mp hn2).1
          subst e1; subst this
          simp at hk))
      go_wp2_with fail
      have P1 := box_put4 HY.out (.int .i64 k') (.int .i64 n') (.string s') (.slice A' m' c') rfl
      obtain ⟨p0, p1, p2, p3⟩ := box4 P1.1
      refine bodyPost_ret (v := .agg #[.int .i64 k', .int .i64 n', .string s', .slice A' m' c']) (by simp [results, go_sem, p0, p1, p2, p3]) rfl ?_
      rw [HD.out]
      exact ⟨⟨_, rfl, HT.out⟩, P1.2.2.2 _ _ (Nat.le_succ _) HB.out⟩
end Go.Proofs.Ytjjkigphfijnbaa
