/- The walks through wake.waits, wake.Dif, coneyref18.Dif, coneylaw18.sameInts. -/
import Derived.Test.YtjjkigphfijnbaaDif0
import Derived.Test.YtjjkigphfijnbaaRu7
import Derived.Test.YtjjkigphfijnbaaVars
import Derived.WalkSpells
import Derived.Deep.QuietTactic
import Derived.BigQuiet
import Derived.Deep.RegionHeld3
import Derived.Deep.DrawnRows
namespace Go.Proofs.Ytjjkigphfijnbaa
open Go.RowKit
attribute [local go_sem ↓] Go.wp_at_zero Go.wp_at_succ

theorem orow1 {w : World} {B g : Nat} (hB : B ≤ g) {x : Int} (h : w.heap[g]? = some (.cells #[.int .i64 x] 3 (0, 0))) : ORow w B (.slice (some ⟨g, 0, none⟩) 1 1) [x] :=
  ⟨rfl, .inr ⟨g, 1, _, rfl, hB, h, Nat.le_refl _, by simp [maxLen], rfl, rfl⟩⟩
theorem orow2 {w : World} {B g : Nat} (hB : B ≤ g) {x y : Int} (h : w.heap[g]? = some (.cells #[.int .i64 x, .int .i64 y] 3 (0, 0))) : ORow w B (.slice (some ⟨g, 0, none⟩) 2 2) [x, y] :=
  ⟨rfl, .inr ⟨g, 2, _, rfl, hB, h, Nat.le_refl _, by simp [maxLen], rfl, rfl⟩⟩
def WaitsP (l : List Int) (w : World) (e : Ending) (w' : World) : Prop := (∃ A c, e = .returned (.slice A l.length c) ∧ ORow w' w.heap.size (.slice A l.length c) l ∧ A.isNone = l.isEmpty) ∧ Below w.heap.size w w'
theorem WaitsP.nil {w w' : World} (h : Below w.heap.size w w') : WaitsP [] w (.returned (.slice none 0 0)) w' := ⟨⟨none, 0, rfl, World.ownsRow_nil _ _ _ _, rfl⟩, h⟩
theorem firstL_go {i : Nat} {f : Nat → List Int} (h : firstL i f = []) (he : f i = []) : firstL (i + 1) f = [] := by
  unfold firstL; rw [h]; exact he
set_option maxRecDepth 100000 in
set_option maxHeartbeats 8000000 in
theorem waits_any : ∀ (t u : T), wsafe t u → t.thin → u.thin → ∀ (v v' : Value) (w : World) (S S' : Nat → Prop), TP w S t v → TP w S' u v' →
    Calls Try.prog 41 #[v, v'] w fun e w' => WaitsP (waitsT t u) w e w' := by
  intro t
  induction t with
  | nil => exact fun u h => by cases u <;> exact h.elim
  | mk k n s m a ih =>
    intro u
    cases u with
    | nil => exact fun h => h.elim
    | mk k' n' s' m' a' =>
    intro hs ht hu v v' w S S' hv hv'
    obtain ⟨A, c, rfl, hmc, hA, hx⟩ := hv
    obtain ⟨A', c', rfl, hmc', hA', hx'⟩ := hv'
    have HX := Lib.hid hx
    have HX' := Lib.hid hx'
    have HT := Lib.hid ht
    have HU := Lib.hid hu
    have HS := Lib.hid hs
    have IH := Lib.hid ih
    have hm : m ≤ 1000 := ht.1
    have hm' : m' ≤ 1000 := hu.1
    have BX := Lib.hid (belA (belA (Below.refl w.heap.size w) (Obj.cells #[.int .i64 k, .int .i64 n, .string s, .slice A m c] 34)) (Obj.cells #[.int .i64 k', .int .i64 n', .string s', .slice A' m' c'] 34))
    obtain ⟨W, hW⟩ : ∃ W, W = (w.alloc (Obj.cells #[.int .i64 k, .int .i64 n, .string s, .slice A m c] 34)).alloc (Obj.cells #[.int .i64 k', .int .i64 n', .string s', .slice A' m' c'] 34) := ⟨_, rfl⟩
    clear hx hx' ht hu ih hA hA' hs
    by_cases h1 : k = 1
    · have h1' : (k == 1) = true := by simpa using h1
      by_cases h2 : k' = 1
      · have h2' : (k' == 1) = true := by simpa using h2
        by_cases h3 : n = n'
        · have h3' : (n == n') = true := by simpa using h3
          have E := Lib.hid (show waitsT (.mk k n s m a) (.mk k' n' s' m' a') = [] by simp [waitsT, h1, h2, h3])
          clear h1 h2 h3 hW
          go_enter Try.func41, Try.ntmps41
          go_wp2_with fail
          go_ret
          rw [E.out]
          exact WaitsP.nil BX.out
        · have h3' : (n == n') = false := by simpa using h3
          have E := Lib.hid (show waitsT (.mk k n s m a) (.mk k' n' s' m' a') = [max n n', min n n'] by simp [waitsT, h1, h2, h3])
          clear h1 h2 hW
          by_cases h4 : n < n'
          · have e1 : max n n' = n' := by omega
            have e2 : min n n' = n := by omega
            clear h3
            go_enter Try.func41, Try.ntmps41
            go_wp2_with fail
            go_ret
            rw [E.out, e1, e2]
            exact ⟨⟨_, 2, rfl, orow2 (by omega) ((congrArg _ (by simp)).trans (heap_alloc_new _ _)), rfl⟩, belA BX.out _⟩
          · have e1 : max n n' = n := by omega
            have e2 : min n n' = n' := by omega
            have h4' : n' < n := by omega
            clear h3
            go_enter Try.func41, Try.ntmps41
            go_wp2_with fail
            go_ret
            rw [E.out, e1, e2]
            exact ⟨⟨_, 2, rfl, orow2 (by omega) ((congrArg _ (by simp)).trans (heap_alloc_new _ _)), rfl⟩, belA BX.out _⟩
      · have h2' : (k' == 1) = false := by simpa using h2
        have E := Lib.hid (show waitsT (.mk k n s m a) (.mk k' n' s' m' a') = [n] by simp [waitsT, h1, h2])
        clear h1 h2 hW
        go_enter Try.func41, Try.ntmps41
        go_wp2_with fail
        go_ret
        rw [E.out]
        exact ⟨⟨_, 1, rfl, orow1 (by omega) ((congrArg _ (by simp)).trans (heap_alloc_new _ _)), rfl⟩, belA BX.out _⟩
    · have h1' : (k == 1) = false := by simpa using h1
      by_cases h2 : k' = 1
      · have h2' : (k' == 1) = true := by simpa using h2
        have E := Lib.hid (show waitsT (.mk k n s m a) (.mk k' n' s' m' a') = [n'] by simp [waitsT, h1, h2])
        clear h1 h2 hW
        go_enter Try.func41, Try.ntmps41
        go_wp2_with fail
        go_ret
        rw [E.out]
        exact ⟨⟨_, 1, rfl, orow1 (by omega) ((congrArg _ (by simp)).trans (heap_alloc_new _ _)), rfl⟩, belA BX.out _⟩
      · have h2' : (k' == 1) = false := by simpa using h2
        have E := Lib.hid (show waitsT (.mk k n s m a) (.mk k' n' s' m' a') = firstL m fun i => waitsT (a i) (a' i) by simp [waitsT, h1, h2])
        obtain ⟨hmm, hsi⟩ : m ≤ m' ∧ ∀ i, i < m → firstL i (fun i => waitsT (a i) (a' i)) = [] → wsafe (a i) (a' i) := by
          rcases HS.out with h | h | h
          · exact absurd h h1
          · exact absurd h h2
          · exact h
        have SI := Lib.hid hsi
        clear h1 h2 hsi HS hW
        have NE : ∀ (w : World) (a : Option Addr) (n c : Nat), (binOp .neq 28 (.slice a n c) (.slice none 0 0)).run Try.prog w = .ok (.bool (!a.isNone)) w := fun w a n c => run_neq_slice_nil_any w 28 3 a n c 0 0 Try.underlying28
        obtain ⟨ff, hff⟩ : ∃ ff : Nat → List Int, (fun i => waitsT (a i) (a' i)) = ff := ⟨_, rfl⟩
        have hfi : ∀ i, waitsT (a i) (a' i) = ff i := fun i => by rw [← hff]
        have FI := Lib.hid hfi
        rw [hff] at E SI
        clear hff hfi
        go_enter Try.func41, Try.ntmps41
        go_wp2_with fail
        go_loopw [5, 6, 49] (fun _ _ iv wr => ∃ i : Nat, iv = .int .i64 (i : Int) ∧ i ≤ m ∧ firstL i ff = [] ∧ Below w.heap.size w wr ∧ wr.heap[w.heap.size]? = some (.cells #[.int .i64 k, .int .i64 n, .string s, .slice A m c] 34 (0, 0)) ∧ wr.heap[w.heap.size + 1]? = some (.cells #[.int .i64 k', .int .i64 n', .string s', .slice A' m' c'] 34 (0, 0))) (fun _ _ iv _ => m - (intOf iv).toNat)
        case atStart => exact ⟨0, rfl, Nat.zero_le _, rfl, BX.out, (Below.heap_alloc _ _ _ (by simp)).trans (heap_alloc_new _ _), (congrArg _ (by simp)).trans (heap_alloc_new _ _)⟩
        case round =>
          obtain ⟨i, rfl, hi, hq, hb, hb0, hb1⟩ := hrel
          have HQ := Lib.hid hq
          have HB := Lib.hid hb
          have X0 := Lib.hid hb0
          have X1 := Lib.hid hb1
          obtain ⟨x0, x1, x2, x3⟩ := box4 hb0
          obtain ⟨y0, y1, y2, y3⟩ := box4 hb1
          have hl0 := heap_lt hb0
          have hl1 := heap_lt hb1
          clear hq hb hb0 hb1
          by_cases him : i < m
          · have him' : (i : Int) < (m : Int) := by omega
            have him2 : (i : Int) < (m' : Int) := by omega
            obtain ⟨b, cs, f, rfl, hSb, hbb, hcell⟩ := HX.out (by omega)
            obtain ⟨b', cs', f', rfl, hSb', hbb', hcell'⟩ := HX'.out (by omega)
            obtain ⟨t0, t1, t2, t3, c0, c1, c2, c3, ta⟩ := hcell i him
            obtain ⟨u0, u1, u2, U0, um, uc, he⟩ := ta.agg
            injection he with he
            simp only [Array.mk.injEq, List.cons.injEq, and_true] at he
            obtain ⟨rfl, rfl, rfl, rfl⟩ := he
            obtain ⟨t0, t1, t2, t3, d0, d1, d2, d3, tb⟩ := hcell' i (by omega)
            obtain ⟨v0, v1, v2, V0, vm, vc, he⟩ := tb.agg
            injection he with he
            simp only [Array.mk.injEq, List.cons.injEq, and_true] at he
            obtain ⟨rfl, rfl, rfl, rfl⟩ := he
            have hbw := (HB.out.block b (heap_lt hbb)).trans hbb
            have hbw' := (HB.out.block b' (heap_lt hbb')).trans hbb'
            have hbl := heap_lt hbw
            have hbl' := heap_lt hbw'
            have KP := Lib.hid (show ∀ w', Below wr.heap.size wr w' → w'.cell? ⟨w.heap.size, 3, none⟩ = some (.slice (some ⟨b, 0, none⟩) m c) ∧ w'.cell? ⟨w.heap.size + 1, 3, none⟩ = some (.slice (some ⟨b', 0, none⟩) m' c') ∧ w'.cell? ⟨b, i * 4, none⟩ = some (.int .i64 u0) ∧ w'.cell? ⟨b, i * 4 + 1, none⟩ = some (.int .i64 u1) ∧ w'.cell? ⟨b, i * 4 + 2, none⟩ = some (.string u2) ∧ w'.cell? ⟨b, i * 4 + 3, none⟩ = some (.slice U0 um uc) ∧ w'.cell? ⟨b', i * 4, none⟩ = some (.int .i64 v0) ∧ w'.cell? ⟨b', i * 4 + 1, none⟩ = some (.int .i64 v1) ∧ w'.cell? ⟨b', i * 4 + 2, none⟩ = some (.string v2) ∧ w'.cell? ⟨b', i * 4 + 3, none⟩ = some (.slice V0 vm vc) from fun w' hw => by
              have r := fun (j : Nat) => (hw.cell (p := ⟨b, j, none⟩) hbl).trans (cell_of_row wr b j _ _ _ hbw)
              have r' := fun (j : Nat) => (hw.cell (p := ⟨b', j, none⟩) hbl').trans (cell_of_row wr b' j _ _ _ hbw')
              rw [Nat.mul_comm 4 i] at c0 c1 c2 c3 d0 d1 d2 d3
              exact ⟨(hw.cell (p := ⟨w.heap.size, 3, none⟩) hl0).trans x3, (hw.cell (p := ⟨w.heap.size + 1, 3, none⟩) hl1).trans y3, (r _).trans c0, (r _).trans c1, (r _).trans c2, (r _).trans c3, (r' _).trans d0, (r' _).trans d1, (r' _).trans d2, (r' _).trans d3⟩)
            have b0 := (Below.refl wr.heap.size wr).drew
            have CI := IH.out i (a' i) (SI.out i him HQ.out) (HT.out.2 i him) (HU.out.2 i (by omega)) _ _ wr.drew S S' ((ta.below (w' := wr) HB.out).below b0) ((tb.below (w' := wr) HB.out).below b0)
            rw [FI.out i] at CI
            have CI := Lib.hid CI
            obtain ⟨l, hl⟩ : ∃ l, ff i = l := ⟨_, rfl⟩
            rw [hl] at CI
            have HL := Lib.hid hl
            clear hcell hcell' c0 c1 c2 c3 d0 d1 d2 d3 ta tb hbb hbb' hbw hbw' x0 x1 x2 y0 y1 y2 hl
            go_wp2_with fail
            go_region_held3 (fun w' => w'.cell? ⟨w.heap.size, 3, none⟩ = some (.slice (some ⟨b, 0, none⟩) m c) ∧ w'.cell? ⟨w.heap.size + 1, 3, none⟩ = some (.slice (some ⟨b', 0, none⟩) m' c') ∧ w'.cell? ⟨b, i * 4, none⟩ = some (.int .i64 u0) ∧ w'.cell? ⟨b, i * 4 + 1, none⟩ = some (.int .i64 u1) ∧ w'.cell? ⟨b, i * 4 + 2, none⟩ = some (.string u2) ∧ w'.cell? ⟨b, i * 4 + 3, none⟩ = some (.slice U0 um uc) ∧ w'.cell? ⟨b', i * 4, none⟩ = some (.int .i64 v0) ∧ w'.cell? ⟨b', i * 4 + 1, none⟩ = some (.int .i64 v1) ∧ w'.cell? ⟨b', i * 4 + 2, none⟩ = some (.string v2) ∧ w'.cell? ⟨b', i * 4 + 3, none⟩ = some (.slice V0 vm vc))
              (first | (with_reducible exact KP.out _ b0) | (with_reducible exact KP.out _ b5))
              (((with_reducible refine CI.out.mono ?_); rintro e w5 ⟨⟨RA, rc, rfl, hr, hne⟩, h5⟩; have b5 := b0.trans h5))
            have B5 := Lib.hid b5
            have HR := Lib.hid (show ORow w5 w.heap.size (.slice RA l.length rc) l from ownsRow_more hr HB.out.size)
            have HNE := Lib.hid hne
            have X05 := Lib.hid ((b5.block _ hl0).trans X0.out)
            have X15 := Lib.hid ((b5.block _ hl1).trans X1.out)
            have BW5 := Lib.hid (HB.out.trans (b5.mono HB.out.size))
            clear hr hne h5 b5 b0 x3 y3
            cases l with
            | nil =>
              have hn : (!RA.isNone) = false := by rw [HNE.out]; rfl
              have HQ2 := Lib.hid (firstL_go HQ.out HL.out)
              go_wp2_with fail
              go_roundw
              case rel => exact ⟨i + 1, by go_num, by omega, HQ2.out, BW5.out, X05.out, X15.out⟩
              case measure => simp [intOf]; omega
            | cons x l =>
              have hn : (!RA.isNone) = true := by rw [HNE.out]; rfl
              have E2 := Lib.hid (show waitsT (.mk k n s m a) (.mk k' n' s' m' a') = x :: l by rw [E.out, firstL_at HQ.out him (by rw [HL.out]; simp), HL.out])
              go_wp2_with fail
              go_ret
              rw [E2.out]
              exact ⟨⟨RA, rc, rfl, HR.out, HNE.out⟩, BW5.out⟩
          · obtain rfl : i = m := by omega
            have E2 := Lib.hid (show waitsT (.mk k n s i a) (.mk k' n' s' m' a') = [] by rw [E.out, HQ.out])
            go_wp2_with fail
            go_ret
            rw [E2.out]
            exact WaitsP.nil HB.out
set_option maxRecDepth 100000 in
set_option maxHeartbeats 4000000 in
theorem wsame_any {ns : List Int} {A B : Option Addr} {c d : Nat} {w : World} (ha : IRow w (.slice A ns.length c) ns) (hb : IRow w (.slice B ns.length d) ns) (hl : ns.length ≤ 1000000) :
    Calls Try.prog 27 #[.slice A ns.length c, .slice B ns.length d] w fun e w' => e = .returned (.bool true) ∧ Below w.heap.size w w' := by
  obtain ⟨_, _, e1, ha1, ha2, hax⟩ := ha.open_
  injection e1 with e1 _ e2
  subst e1; subst e2
  obtain ⟨_, _, e1, hb1, hb2, hbx⟩ := hb.open_
  injection e1 with e1 _ e2
  subst e1; subst e2
  have HA := Lib.hid hax
  have HB := Lib.hid hbx
  have hnn : ((ns.length : Int) != (ns.length : Int)) = false := by simp
  clear hax hbx ha hb ha2 hb2
  go_enter Try.func27, Try.ntmps27
  go_wp2_with fail
  go_loopw [5] (fun iv wr => ∃ i : Nat, iv = .int .i64 (i : Int) ∧ i ≤ ns.length ∧ Below w.heap.size w wr) (fun iv _ => ns.length - (intOf iv).toNat)
  case atStart => exact ⟨0, rfl, Nat.zero_le _, Below.refl _ _⟩
  case round =>
    obtain ⟨i, rfl, hi, hb⟩ := hrel
    have HW := Lib.hid hb
    clear hb
    by_cases him : i < ns.length
    · have him' : (i : Int) < (ns.length : Int) := by omega
      obtain ⟨x, hx⟩ : ∃ x, ns[i]? = some x := ⟨_, List.getElem?_eq_getElem him⟩
      obtain ⟨ga, rfl, hgl, ca⟩ := HA.out i x hx
      obtain ⟨gb, rfl, hgl', cb⟩ := HB.out i x hx
      have da := (HW.out.cell (p := ⟨ga, i, none⟩) hgl).trans ca
      have db := (HW.out.cell (p := ⟨gb, i, none⟩) hgl').trans cb
      have hxx : (x != x) = false := by simp
      have hl0 : (0 : Int) ≤ (i : Int) := by omega
      clear ca cb hx
      go_wp2_with fail
      go_quiet (fail)
      go_wp2_with fail
      go_roundw
      case rel => exact ⟨i + 1, by go_num, him, bel_drewN HW.out _⟩
      case measure => simp [intOf]; omega
    · have him' : ¬ (i : Int) < (ns.length : Int) := by omega
      go_wp2_with fail
      go_ret
      exact ⟨rfl, HW.out⟩
/-- What Dif comes to. -/
def DifP (r : Res) (w : World) (e : Ending) (w' : World) : Prop := (∃ A c, e = .returned (.tuple #[.int .i64 (difN r), .slice A (difL r).length c]) ∧ IRow w' (.slice A (difL r).length c) (difL r)) ∧ Below w.heap.size w w'
def DifO (r : Res) (w : World) (e : Ending) (w' : World) : Prop := (∃ A c, e = .returned (.tuple #[.int .i64 (difN r), .slice A (difL r).length c]) ∧ ORow w' w.heap.size (.slice A (difL r).length c) (difL r)) ∧ Below w.heap.size w w'
set_option maxRecDepth 100000 in
set_option maxHeartbeats 8000000 in
theorem pdif_own {a b : T} {va vb : Value} {w : World} {S S' : Nat → Prop} (ha : TP w S a va) (hb : TP w S' b vb) (oa : a.ok) (ob : b.ok) {r : Res} (hr : uniF 2000 [] [(a, b)] = r) :
    Calls Try.prog 25 #[va, vb] w fun e w' => DifO r w e w' := by
  obtain ⟨k0, n0, s0, A0, m0, c0, rfl⟩ := ha.agg
  obtain ⟨k1, n1, s1, A1, m1, c1, rfl⟩ := hb.agg
  have HA := Lib.hid (ha.more (S' := fun _ => True) fun _ _ => trivial)
  have HB := Lib.hid (hb.more (S' := fun _ => True) fun _ _ => trivial)
  have HR := Lib.hid hr
  have hcase : (r = .unlike ∨ r = .many) ∨ (∃ f, r = .ok [] f) ∨ ∃ p M f, r = .ok (p :: M) f := by
    cases r with
    | unlike => exact .inl (.inl rfl)
    | many => exact .inl (.inr rfl)
    | ok L f => cases L with
      | nil => exact .inr (.inl ⟨f, rfl⟩)
      | cons p M => exact .inr (.inr ⟨p, M, f, rfl⟩)
  have BX := Lib.hid (belA (belA (Below.refl w.heap.size w) (Obj.cells #[.int .i64 k0, .int .i64 n0, .string s0, .slice A0 m0 c0] 34)) (Obj.cells #[.int .i64 k1, .int .i64 n1, .string s1, .slice A1 m1 c1] 34))
  clear ha hb hr
  go_enter Try.func25, Try.ntmps25
  go_wp2_with fail
  refine (unew_any _).mono ?_
  rintro e w2 ⟨⟨eb, mb, rfl, hmb, he⟩, hb2⟩
  have HE := Lib.hid he
  have B2 := Lib.hid (BX.out.trans (hb2.mono BX.out.size))
  have X0 := Lib.hid ((hb2.block w.heap.size (by simp; omega)).trans ((Below.heap_alloc (w.alloc (Obj.cells #[.int .i64 k0, .int .i64 n0, .string s0, .slice A0 m0 c0] 34)) (Obj.cells #[.int .i64 k1, .int .i64 n1, .string s1, .slice A1 m1 c1] 34) w.heap.size (by simp)).trans (heap_alloc_new w _)))
  have Y0 := Lib.hid ((hb2.block (w.heap.size + 1) (by simp)).trans ((congrArg _ (by simp)).trans (heap_alloc_new (w.alloc (Obj.cells #[.int .i64 k0, .int .i64 n0, .string s0, .slice A0 m0 c0] 34)) (Obj.cells #[.int .i64 k1, .int .i64 n1, .string s1, .slice A1 m1 c1] 34))))
  have hmw : w.heap.size ≤ mb := Nat.le_trans BX.out.size hmb
  obtain ⟨x0, x1, x2, x3⟩ := box4 X0.out
  obtain ⟨y0, y1, y2, y3⟩ := box4 Y0.out
  clear he hb2 hmb
  have CU := Lib.hid (unify_u HE.out (by omega) (HA.out.below B2.out) (HB.out.below B2.out) oa ob HR.out)
  go_wp2_with fail
  refine CU.out.mono ?_
  rintro e w3 ⟨⟨UA, uc, rfl, _, he3⟩, hb3⟩
  have B3 := Lib.hid (B2.out.trans (hb3.below hmw B2.out.size))
  have X3 := (hb3.far HE.out.isMap.spare X0.out (by decide))
  have Y3 := (hb3.far HE.out.isMap.spare Y0.out (by decide))
  obtain ⟨x0, x1, x2, x3⟩ := box4 X3
  obtain ⟨y0, y1, y2, y3⟩ := box4 Y3
  have hl0 := heap_lt X3
  have hl1 := heap_lt Y3
  clear he3 hb3 X3 Y3
  rcases hcase with (rfl | rfl) | ⟨f, rfl⟩ | ⟨p, M, f, rfl⟩
  · simp only [resErr]
    go_wp2_with fail
    go_ret2
    exact ⟨⟨none, 0, rfl, World.ownsRow_nil _ _ _ _⟩, B3.out⟩
  · simp only [resErr]
    go_wp2_with fail
    go_ret2
    exact ⟨⟨none, 0, rfl, World.ownsRow_nil _ _ _ _⟩, B3.out⟩
  · simp only [resErr]
    go_wp2_with fail
    go_ret2
    exact ⟨⟨none, 0, rfl, World.ownsRow_nil _ _ _ _⟩, B3.out⟩
  · obtain ⟨ws, hw⟩ := waits_dif HR.out
    have E := Lib.hid hw
    have hz : (((List.map Prod.fst (newB [] (.ok (p :: M) f))).length : Int) == 0) = false := by
      rw [beq_eq_false_iff_ne, show newB [] (.ok (p :: M) f) = p :: M from rfl]
      simp; omega
    have CW := Lib.hid (waits_any a b ws oa.thin ob.thin _ _ w3 _ _ (HA.out.below B3.out) (HB.out.below B3.out))
    clear hw
    simp only [resErr]
    go_wp2_with fail
    refine CW.out.mono ?_
    rintro e w4 ⟨⟨RA, rc, rfl, hr4, _⟩, h4⟩
    have R4 := Lib.hid (show ORow w4 w.heap.size (.slice RA (difL (.ok (p :: M) f)).length rc) (difL (.ok (p :: M) f)) by rw [← E.out]; exact ownsRow_more hr4 B3.out.size)
    have B4 := Lib.hid (B3.out.trans (h4.mono B3.out.size))
    clear hr4 h4
    go_wp2_with fail
    go_ret2
    exact ⟨⟨RA, rc, by rw [E.out]; rfl, R4.out⟩, B4.out⟩
theorem pdif_any {a b : T} {va vb : Value} {w : World} {S S' : Nat → Prop} (ha : TP w S a va) (hb : TP w S' b vb) (oa : a.ok) (ob : b.ok) {r : Res} (hr : uniF 2000 [] [(a, b)] = r) :
    Calls Try.prog 25 #[va, vb] w fun e w' => DifP r w e w' := (pdif_own ha hb oa ob hr).mono fun _ _ ⟨⟨A, c, h1, h2⟩, h3⟩ => ⟨⟨A, c, h1, h2.irow⟩, h3⟩
end Go.Proofs.Ytjjkigphfijnbaa
