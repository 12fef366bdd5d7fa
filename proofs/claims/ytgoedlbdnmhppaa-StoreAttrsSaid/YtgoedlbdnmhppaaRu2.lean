/- The walk through coneyref08.walk. -/
import Derived.Test.YtgoedlbdnmhppaaRu1
namespace Go.Proofs.Ytgoedlbdnmhppaa
open Go.RowKit

theorem TP.kind {w : World} {S : Nat → Prop} {t : T} {k n : Int} {s x : Value} (h : TP w S t (.agg #[.int .i64 k, .int .i64 n, s, x])) (ht : t.ok) (hk : k = 1) : t.var? = some n ∧ 0 ≤ n ∧ n < 1000 := by
  cases t with
  | nil => exact h.elim
  | mk ku nu su mu au =>
    obtain ⟨_, _, e, _⟩ := h
    injection e with e
    simp only [Array.mk.injEq, List.cons.injEq, and_true] at e
    obtain ⟨e1, e2, _⟩ := e
    injection e1 with _ e1
    injection e2 with _ e2
    subst e1; subst e2
    have := ht.var hk
    exact ⟨var_iff.mpr ⟨hk, rfl⟩, this.1, this.2.1⟩
theorem TP.novar {w : World} {S : Nat → Prop} {t : T} {k n : Int} {s x : Value} (h : TP w S t (.agg #[.int .i64 k, .int .i64 n, s, x])) (hk : k ≠ 1) : t.var? = none := by
  cases t with
  | nil => exact h.elim
  | mk ku nu su mu au =>
    obtain ⟨_, _, e, _⟩ := h
    injection e with e
    simp only [Array.mk.injEq, List.cons.injEq, and_true] at e
    obtain ⟨e1, _⟩ := e
    injection e1 with _ e1
    subst e1
    simp [T.var?, hk]
structure RWk (w0 w : World) (L : Bs) (t : T) (wr : World) (i : Nat) (k n : Int) (s : ByteArray) (A : Option Addr) (m c : Nat) : Prop where
  box : wr.heap[w.heap.size]? = some (.cells #[.int .i64 k, .int .i64 n, .string s, .slice A m c] 40 (0, 0))
  res : wr.heap[w.heap.size + 1]? = some (.cells #[.int .i64 0, .int .i64 0, .string ⟨#[]⟩, .slice none 0 0] 40 (0, 0))
  tp : TP w0 (fun _ => True) (walkF L i t) (.agg #[.int .i64 k, .int .i64 n, .string s, .slice A m c])
  low : Below w.heap.size w wr
  hi : i ≤ L.length
set_option maxRecDepth 100000 in
set_option maxHeartbeats 4000000 in
theorem rwalk_any {w0 w : World} {A : Option Addr} {c : Nat} {L : Bs} (h : BL w0 A c L) (hL : EnvOk L) {t : T} {v : Value} (hv : TP w0 (fun _ => True) t v) (ht : t.ok) (hb0 : Below w0.heap.size w0 w) :
    Calls Try.prog 57 #[.slice A L.length c, v] w fun e w' => (∃ v', e = .returned v' ∧ TP w0 (fun _ => True) (walkN L t) v') ∧ Below w.heap.size w w' := by
  obtain ⟨k, n, s, A1, m1, c1, rfl⟩ := hv.agg
  have H := Lib.hid h
  have HV := Lib.hid hv
  have HB0 := Lib.hid hb0
  have hfew := h.few
  clear h hv hb0
  go_enter Try.func57, Try.ntmps57
  go_wp2_with fail
  go_loopw [5] (fun iv wr => ∃ (i : Nat) (k' n' : Int) (s' : ByteArray) (A' : Option Addr) (m' c' : Nat), iv = .int .i64 (i : Int) ∧ RWk w0 w L t wr i k' n' s' A' m' c') (fun iv _ => L.length - (intOf iv).toNat)
  case atStart =>
    have B0 := ((Below.refl w.heap.size w).alloc (Nat.le_refl _) (Obj.cells #[.int .i64 k, .int .i64 n, .string s, .slice A1 m1 c1] 40)).alloc (by simp) (Obj.cells #[.int .i64 0, .int .i64 0, .string ⟨#[]⟩, .slice none 0 0] 40)
    exact ⟨0, k, n, s, A1, m1, c1, rfl, (Below.heap_alloc _ _ _ (by simp)).trans (heap_alloc_new _ _), (congrArg _ (by simp)).trans (heap_alloc_new _ _), HV.out, B0, Nat.zero_le _⟩
  case round =>
    obtain ⟨i, k', n', s', A', m', c', rfl, hr⟩ := hrel
    have R := Lib.hid hr
    obtain ⟨x0, x1, x2, x3⟩ := box4 hr.box
    obtain ⟨y0, y1, y2, y3⟩ := box4 hr.res
    have hgl := heap_lt hr.box
    have hgl1 := heap_lt hr.res
    have hi := hr.hi
    have hi' : (i : Int) ≤ (L.length : Int) := by omega
    have xf : ∀ i, wr.frozen? ⟨w.heap.size, i, none⟩ = false := fun i => by simp [World.frozen?, hr.box]
    have yf : ∀ i, wr.frozen? ⟨w.heap.size + 1, i, none⟩ = false := fun i => by simp [World.frozen?, hr.res]
    have hok := hL.walkF_ok ht i
    have FIN := Lib.hid (show ∀ W, Below w.heap.size w W → doneW L (walkF L i t) → (∃ v', Ending.returned (.agg #[.int .i64 k', .int .i64 n', .string s', .slice A' m' c']) = .returned v' ∧ TP w0 (fun _ => True) (walkN L t) v') ∧ Below w.heap.size w W from fun W hW hd => ⟨⟨_, rfl, by rw [walkN_eq hL hd]; exact R.out.tp⟩, hW⟩)
    clear hr
    cases hk : (k' == 1) with
    | true =>
      have hk1 : k' = 1 := by simpa using hk
      obtain ⟨hv1, hn0, hn1⟩ := R.out.tp.kind hok hk1
      have HV1 := Lib.hid hv1
      have HB := Lib.hid (HB0.out.trans (R.out.low.mono HB0.out.size))
      clear hk1 hv1
      go_wp2_with fail
      refine (rfind_any H.out n' HB.out).mono ?_
      rintro e w1 ⟨⟨q0, q1, q2, qA, qm, qc, rfl, hx⟩, h1⟩
      have HX := Lib.hid hx
      have B1 := Lib.hid (h1.alloc h1.size (Obj.cells #[.int .i64 q0, .int .i64 q1, .string q2, .slice qA qm qc] 40))
      have X1 := Lib.hid ((B1.out.block _ hgl).trans R.out.box)
      have Y1 := Lib.hid ((B1.out.block _ hgl1).trans R.out.res)
      have X0 := (h1.block _ hgl).trans R.out.box
      have Y0 := (h1.block _ hgl1).trans R.out.res
      have l0 := heap_lt X0
      have l1 := heap_lt Y0
      obtain ⟨x0, x1, x2, x3⟩ := box4 X0
      obtain ⟨y0, y1, y2, y3⟩ := box4 Y0
      have xf : ∀ i, w1.frozen? ⟨w.heap.size, i, none⟩ = false := fun i => by simp [World.frozen?, X0]
      have yf : ∀ i, w1.frozen? ⟨w.heap.size + 1, i, none⟩ = false := fun i => by simp [World.frozen?, Y0]
      have BW := Lib.hid (R.out.low.trans (h1.mono R.out.low.size))
      clear hx h1
      cases hf : findB L n' with
      | some x =>
        have hs : walkF L (i + 1) t = x := by simp only [walkF, stepW, HV1.out, hf]
        have hlt : i < L.length := by
          rcases Nat.lt_or_ge i L.length with h | h
          · exact h
          · have := hL.not_done (t := t) h n' HV1.out; rw [hf] at this; cases this
        have HS := Lib.hid hs
        have HXX := Lib.hid (HX.out x hf)
        have Y2 := Lib.hid Y0
        have P := Lib.hid (put_new X0 (Nat.le_refl _) BW.out (.int .i64 q0) (.int .i64 q1) (.string q2) (.slice qA qm qc) (Obj.cells #[.int .i64 q0, .int .i64 q1, .string q2, .slice qA qm qc] 40))
        clear hs X0 Y0 hf
        simp only [Option.isSome]
        go_wp2_with fail
        go_roundw
        case rel => exact ⟨i + 1, q0, q1, q2, qA, qm, qc, by go_num, P.out.1, (P.out.2.1 _ (by omega) l1).trans Y2.out, by rw [HS.out]; exact HXX.out, P.out.2.2, hlt⟩
        case measure => simp [intOf]; omega
      | none =>
        have HD := Lib.hid (show doneW L (walkF L i t) from fun n2 hn2 => by rw [HV1.out] at hn2; injection hn2 with hn2; subst hn2; exact hf)
        have P1 := Lib.hid (box_put4 Y0 (.int .i64 k') (.int .i64 n') (.string s') (.slice A' m' c') rfl)
        have P2 := Lib.hid (put_new Y0 (Nat.le_succ _) BW.out (.int .i64 k') (.int .i64 n') (.string s') (.slice A' m' c') (Obj.cells #[.int .i64 q0, .int .i64 q1, .string q2, .slice qA qm qc] 40))
        clear hf X0 Y0
        simp only [Option.isSome]
        go_wp2_with fail
        obtain ⟨p0, p1, p2, p3⟩ := box4 P1.out.1
        refine bodyPost_ret (v := .agg #[.int .i64 k', .int .i64 n', .string s', .slice A' m' c']) (by simp [results, go_sem, p0, p1, p2, p3, l1]) rfl ?_
        exact FIN.out _ P2.out.2.2 HD.out
    | false =>
      have hk1 : k' ≠ 1 := by simpa using hk
      have hd : doneW L (walkF L i t) := fun n2 hn2 => by rw [R.out.tp.novar hk1] at hn2; cases hn2
      have HD := Lib.hid hd
      clear hd hk1
      go_wp2_with fail
      have P1 := box_put4 R.out.res (.int .i64 k') (.int .i64 n') (.string s') (.slice A' m' c') rfl
      obtain ⟨p0, p1, p2, p3⟩ := box4 P1.1
      refine bodyPost_ret (v := .agg #[.int .i64 k', .int .i64 n', .string s', .slice A' m' c']) (by simp [results, go_sem, p0, p1, p2, p3]) rfl ?_
      exact FIN.out _ (P1.2.2.2 _ _ (Nat.le_succ _) R.out.low) HD.out
end Go.Proofs.Ytgoedlbdnmhppaa
