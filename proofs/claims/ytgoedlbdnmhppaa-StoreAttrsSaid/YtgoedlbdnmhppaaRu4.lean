/- The walk through coneyref08.reach. -/
import Derived.Test.YtgoedlbdnmhppaaRu3
import Derived.Deep.QuietTactic
import Derived.BigQuiet
namespace Go.Proofs.Ytgoedlbdnmhppaa
open Go.RowKit

theorem belA {w w1 : World} (h : Below w.heap.size w w1) (o : Obj) : Below w.heap.size w (w1.alloc o) := h.alloc h.size o
theorem bel_drewN {B : Nat} {w w1 : World} (h : Below B w w1) (n : Nat) : Below B w (w1.drewN n) := ⟨h.os, h.tape, h.output, h.size, h.block⟩
theorem Try.info_int8 : (Try.prog.info? 3).map (fun i => (i.zero, i.size, i.bytes)) = some (some (.int .i64 0), 1, 8) := by kernel_rfl
theorem elInt8 : El Try.prog 22 3 (.int .i64 0) 1 8 := by
  obtain ⟨i0, hi, hz0, hz1, hz2⟩ := info_parts Try.info_int8
  exact ⟨Try.underlying22, ⟨i0, hi, hz0, hz1, hz2⟩, rfl, by omega⟩
/-- A row of integers. -/
def IRow (w : World) (v : Value) (ns : List Int) : Prop := w.ownsRow 0 3 1 v ns.length (ns.map (Value.int .i64))
theorem IRow.below {w w' : World} {v : Value} {ns : List Int} (h : IRow w v ns) (hb : Below w.heap.size w w') : IRow w' v ns := own_below h hb
theorem IRow.nil (w : World) : IRow w (.slice none 0 0) [] := World.ownsRow_nil _ _ _ _
theorem IRow.open_ {w : World} {v : Value} {ns : List Int} (h : IRow w v ns) : ∃ A c, v = .slice A ns.length c ∧ ns.length ≤ c ∧ (A = none → c = 0) ∧ ∀ i x, ns[i]? = some x → ∃ g, A = some ⟨g, 0, none⟩ ∧ g < w.heap.size ∧ w.cell? ⟨g, i, none⟩ = some (.int .i64 x) := by
  obtain ⟨A, c, e, h1, h2, _, h3⟩ := own_open h
  refine ⟨A, c, e, h1, h2, fun i x hx => ?_⟩
  have hi : i < ns.length := by
    rcases Nat.lt_or_ge i ns.length with h | h
    · exact h
    · rw [List.getElem?_eq_none h] at hx; cases hx
  obtain ⟨g, cur, rfl, _, hh, hc⟩ := h3 (by omega)
  exact ⟨g, rfl, heap_lt hh, (cell_of_row w g i _ _ _ hh).trans ((hc i (by omega)).trans (by simp [hx]))⟩
def ReachR (L : Bs) (t : T) (ns : List Int) (w : World) (e : Ending) (w' : World) : Prop :=
  (∃ v ns', e = .returned v ∧ IRow w' v ns' ∧ RSet L t ns ns') ∧ Below w.heap.size w w'
def ReachC (r : Int → Nat) (L : Bs) (K : Nat) (t : T) : Prop := ∀ (w : World) (A : Option Addr) (c : Nat) (v mv : Value) (ns : List Int), BL w A c L → TP w (fun _ => True) t v → t.ok → (∀ u, t.hasV u → r u < K) → IRow w mv ns → ns.Nodup → (∀ x ∈ ns, 0 ≤ x ∧ x < 1000) →
  Calls Try.prog 74 #[.slice A L.length c, v, mv] w fun e w' => ReachR L t ns w e w'
set_option maxRecDepth 100000 in
set_option maxHeartbeats 8000000 in
theorem reach_step {r : Int → Nat} {L : Bs} {K : Nat} {t : T} (hL : EnvOk L) (hr : ∀ p ∈ L, ∀ v, p.2.hasV v → r v < r p.1) (ihK : ∀ K' < K, ∀ u, ReachC r L K' u) (ihT : ∀ n' s m a, t = .mk 4 n' s m a → ∀ i, i < m → ReachC r L K (a i)) : ReachC r L K t := by
  intro w A c v mv ns hbl hv ht hrk hm hnd hin
  obtain ⟨k, n, s, A1, m1, c1, rfl⟩ := hv.agg
  obtain ⟨MA, mc, rfl, hmc, hmA, hmx⟩ := hm.open_
  have H := Lib.hid hbl
  have HV := Lib.hid hv
  have HR := Lib.hid hr
  have IK := Lib.hid ihK
  have IT := Lib.hid ihT
  have HRK := Lib.hid hrk
  have HM := Lib.hid hm
  have HMX := Lib.hid hmx
  have HND := Lib.hid hnd
  have HIN := Lib.hid hin
  have hfew := nodup_few 1000 ns hnd hin
  have hbf := hbl.few
  clear hbl hv hr ihK ihT hrk hm hmx hnd hin
  have B0 := Lib.hid ((Below.refl w.heap.size w).alloc (Nat.le_refl _) (Obj.cells #[.int .i64 k, .int .i64 n, .string s, .slice A1 m1 c1] 40))
  cases hk : (k == 1) with
  | true =>
    have hk1 : k = 1 := by simpa using hk
    obtain ⟨hv1, hn0, hn1⟩ := HV.out.kind ht hk1
    have HV1 := Lib.hid hv1
    clear hk1 hv1
    go_enter Try.func74, Try.ntmps74
    go_wp2_with fail
    go_loopw [7] (fun iv wr => ∃ i d : Nat, iv = .int .i64 (i : Int) ∧ i ≤ ns.length ∧ wr = (w.alloc (Obj.cells #[.int .i64 k, .int .i64 n, .string s, .slice A1 m1 c1] 40)).drewN d ∧ ∀ (q : Nat) (x : Int), q < i → ns[q]? = some x → x ≠ n) (fun iv _ => ns.length - (intOf iv).toNat)
    case atStart => exact ⟨0, 0, rfl, Nat.zero_le _, rfl, fun q x hq => absurd hq (by omega)⟩
    case round =>
      obtain ⟨i, d, rfl, hi, rfl, hno⟩ := hrel
      have HN := Lib.hid hno
      clear hno
      by_cases him : i < ns.length
      · have him' : (i : Int) < (ns.length : Int) := by omega
        obtain ⟨x, hx⟩ : ∃ x, ns[i]? = some x := ⟨ns[i]'(by omega), List.getElem?_eq_getElem _⟩
        obtain ⟨g, rfl, hg, hc⟩ := HMX.out i x hx
        have HX := Lib.hid hx
        clear hx
        cases hxn : (x == n) with
        | true =>
          go_wp2_with fail
          go_quiet (fail)
          go_wp2_with fail
          go_ret
          have hmem : n ∈ ns := by
            have : x = n := by simpa using hxn
            rw [← this]; exact List.mem_of_getElem? HX.out
          exact ⟨⟨_, ns, rfl, HM.out.below (bel_drewN (bel_drewN B0.out d) _), RSet.old HV1.out hmem HND.out HIN.out⟩, bel_drewN (bel_drewN B0.out d) _⟩
        | false =>
          have hne : x ≠ n := by simpa using hxn
          have HNE := Lib.hid hne
          clear hne
          go_wp2_with fail
          go_quiet (fail)
          go_wp2_with fail
          go_roundw
          case rel =>
            refine ⟨i + 1, _, by go_num, him, rfl, fun q y hq hy => ?_⟩
            by_cases hqi : q = i
            · subst hqi; rw [HX.out] at hy; injection hy with hy; subst hy; exact HNE.out
            · exact HN.out q y (by omega) hy
          case measure => simp [intOf]; omega
      · obtain rfl : i = ns.length := by omega
        have hnot : n ∉ ns := fun hmem => by
          obtain ⟨q, hq, hqe⟩ := List.getElem_of_mem hmem
          exact HN.out q n hq (by rw [List.getElem?_eq_getElem hq, hqe]) rfl
        have HNOT := Lib.hid hnot
        have B1 := Lib.hid (bel_drewN B0.out d)
        have hs1 := B1.out.size
        clear hnot HN
        obtain ⟨W1, hW1⟩ : ∃ W1, W1 = (w.alloc (Obj.cells #[.int .i64 k, .int .i64 n, .string s, .slice A1 m1 c1] 40)).drewN d := ⟨_, rfl⟩
        have X1 : W1.heap[w.heap.size]? = some (.cells #[.int .i64 k, .int .i64 n, .string s, .slice A1 m1 c1] 40 (0, 0)) := by rw [hW1]; exact heap_alloc_new _ _
        rw [← hW1] at B1 hs1 ⊢
        have HX1 := Lib.hid X1
        have hlt1 := heap_lt X1
        clear X1 hW1
        go_wp2_with (at_builtin; go_must (refine wpList_append_cells _ rfl _ _ _ rfl elInt8 W1.heap.size _ 0 [] rfl (ownsRow_empty _ _ _ _ (heap_alloc_new _ _)) MA ns.length mc (ns.map (Value.int .i64)) rfl hmA hmc (by simp) ?_ ?_ (by omega) (by unfold maxLen; omega) (by simp) ?_))
        · intro h0
          obtain ⟨g, hA, hg, _⟩ := HMX.out 0 (ns[0]'h0) (List.getElem?_eq_getElem h0)
          refine ⟨g, 0, hA, fun j u hu => ?_⟩
          rw [List.getElem?_map] at hu
          cases hj : ns[j]? with
          | none => rw [hj] at hu; cases hu
          | some y =>
            rw [hj] at hu
            injection hu with hu
            subst hu
            obtain ⟨g', hA', hg', hc⟩ := HMX.out j y hj
            rw [hA] at hA'
            injection hA' with hA'
            injection hA' with hA'
            subst hA'
            rw [Nat.zero_add]
            exact ((belA B1.out (Obj.cells #[] 3)).cell (p := ⟨g, j, none⟩) hg).trans hc
        · intro u hu
          obtain ⟨y, _, rfl⟩ := List.mem_map.mp hu
          rfl
        intro v1 w1 hown1 hg1
        have C1 := Lib.hid (show Below W1.heap.size W1 w1 from (belA (Below.refl _ _) (Obj.cells #[] 3)).grown hg1 (by simp) fun k hk => by simp [Value.ownBlock] at hk; omega)
        have O1 := Lib.hid hown1
        have hs2 := C1.out.size
        have X2 := (C1.out.block _ hlt1).trans HX1.out
        have hlt2 := heap_lt X2
        obtain ⟨z0, z1, z2, z3⟩ := box4 X2
        clear hown1 hg1
        go_wp2_with (at_builtin; go_must (refine wpList_push_any _ rfl _ _ _ rfl elInt8 W1.heap.size v1 ns.length _ rfl (own_below O1.out (belA (Below.refl _ _) _)) w1.heap.size 1 [.int .i64 n] rfl rfl ?_ ?_ (by omega) (by unfold maxLen; omega) (by simp; omega) ?_))
        · intro j u hu
          rw [cell_of_row _ _ j _ _ _ (heap_alloc_new _ _)]
          simpa using hu
        · intro u hu
          simp at hu
          subst hu
          rfl
        intro v2 w2 hown2 hb2
        have C2 := Lib.hid (show Below W1.heap.size W1 w2 from (C1.out.alloc C1.out.size (Obj.cells #[.int .i64 n] 3)).trans hb2)
        have I2 := Lib.hid (show IRow w2 v2 (ns ++ [n]) from by
          unfold IRow
          have := ownsRow_more hown2 (Nat.zero_le _)
          simpa using this)
        have B2 := Lib.hid (B1.out.trans (C2.out.mono hs1))
        have hs3 := C2.out.size
        have X3 := (C2.out.block _ hlt1).trans HX1.out
        have hlt3 := heap_lt X3
        clear hown2 hb2 z0 z1 z2 z3 X2
        obtain ⟨z0, z1, z2, z3⟩ := box4 X3
        go_wp2_with fail
        refine (rfind_any H.out n B2.out).mono ?_
        rintro e w3 ⟨⟨q0, q1, q2, qA, qm, qc, rfl, hx⟩, h3⟩
        have HX := Lib.hid hx
        have B3 := Lib.hid (B2.out.trans (h3.mono B2.out.size))
        have B4 := Lib.hid (belA B3.out (Obj.cells #[.int .i64 q0, .int .i64 q1, .string q2, .slice qA qm qc] 40))
        have I4 := Lib.hid ((I2.out.below h3).below (belA (Below.refl _ _) (Obj.cells #[.int .i64 q0, .int .i64 q1, .string q2, .slice qA qm qc] 40)))
        clear hx h3 X3
        cases hf : findB L n with
        | some x =>
          have HF := Lib.hid hf
          have CX := Lib.hid (IK.out (r n) (HRK.out n (var_has HV1.out)) x (w3.alloc (Obj.cells #[.int .i64 q0, .int .i64 q1, .string q2, .slice qA qm qc] 40)) A c (.agg #[.int .i64 q0, .int .i64 q1, .string q2, .slice qA qm qc]) v2 (ns ++ [n]) (H.out.below B4.out) ((HX.out x hf).below B4.out) (hL.find hf).2.2
            (fun u hu => HR.out _ (findB_mem hf) u hu) I4.out (nodup_snoc HND.out HNOT.out) (inr_snoc HIN.out hn0 hn1))
          clear hf
          simp only [Option.isSome]
          go_wp2_with fail
          refine CX.out.mono ?_
          rintro e w5 ⟨⟨v5, ns5, rfl, hi5, hs5⟩, h5⟩
          have I5 := Lib.hid hi5
          have S5 := Lib.hid hs5
          have B5 := Lib.hid (B4.out.trans (h5.mono B4.out.size))
          clear hi5 hs5 h5
          go_wp2_with fail
          go_ret
          exact ⟨⟨_, ns5, rfl, I5.out, RSet.bound HV1.out HF.out S5.out⟩, B5.out⟩
        | none =>
          have HF := Lib.hid hf
          clear hf
          simp only [Option.isSome]
          go_wp2_with fail
          go_ret
          exact ⟨⟨_, _, rfl, I4.out, RSet.unbound HV1.out HNOT.out HF.out HND.out HIN.out hn0 hn1⟩, B4.out⟩
  | false =>
    have hk1 : k ≠ 1 := by simpa using hk
    obtain ⟨ku, nu, su, mu, au, rfl⟩ : ∃ ku nu su mu au, t = .mk ku nu su mu au := by
      have htp := HV.out
      cases t with
      | nil => exact htp.elim
      | mk ku nu su mu au => exact ⟨_, _, _, _, _, rfl⟩
    obtain ⟨a0, a1, a2, rfl, hmc1, hA, _⟩ := HV.out.args
    injection a0 with _ a0
    injection a1 with _ a1
    injection a2 with a2
    subst a0; subst a1; subst a2
    have hfew1 := ht.few
    have hno4 : k ≠ 4 → m1 = 0 := fun h => ht.plain h
    have HNO4 := Lib.hid hno4
    have HK1 := Lib.hid hk1
    clear hk1 hno4
    go_enter Try.func74, Try.ntmps74
    go_wp2_with fail
    go_loopw [2, 11] (fun mv iv wr => ∃ (i : Nat) (n1 : List Int), iv = .int .i64 (i : Int) ∧ i ≤ m1 ∧ IRow wr mv n1 ∧ RArgs L au i ns n1 ∧ Below w.heap.size w wr ∧ wr.heap[w.heap.size]? = some (.cells #[.int .i64 k, .int .i64 n, .string s, .slice A1 m1 c1] 40 (0, 0))) (fun _ iv _ => m1 - (intOf iv).toNat)
    case atStart => exact ⟨0, ns, rfl, Nat.zero_le _, HM.out.below B0.out, RArgs.zero HND.out HIN.out, B0.out, heap_alloc_new _ _⟩
    case round =>
      obtain ⟨i, n1, rfl, hi, hi1, ha1, hb1, hx1⟩ := hrel
      have I1 := Lib.hid hi1
      have A1' := Lib.hid ha1
      have B1 := Lib.hid hb1
      have X1 := Lib.hid hx1
      have hs1 := hb1.size
      have hlt1 := heap_lt hx1
      obtain ⟨x0, x1, x2, x3⟩ := box4 hx1
      clear hi1 ha1 hb1 hx1
      cases hk4 : (k == 4) with
      | false =>
        have hk4' : k ≠ 4 := by simpa using hk4
        have hm0 := HNO4.out hk4'
        have S0 := Lib.hid (show RSet L (.mk k n s m1 au) ns n1 from ⟨A1'.out.sub, fun x hx => (A1'.out.rch x hx).imp id fun ⟨q, hq, _⟩ => absurd hq (by omega), fun x hx => by
          rcases hx with ⟨h, _⟩ | ⟨h, _⟩
          · exact absurd h HK1.out
          · exact absurd h hk4', A1'.out.clo, A1'.out.nd, A1'.out.inr⟩)
        clear hk4' hm0
        go_wp2_with fail
        go_ret
        exact ⟨⟨_, n1, rfl, I1.out, S0.out⟩, B1.out⟩
      | true =>
        have hk4' : k = 4 := by simpa using hk4
        have HK4 := Lib.hid hk4'
        clear hk4'
        by_cases him : i < m1
        · have him' : (i : Int) < (m1 : Int) := by omega
          obtain ⟨_, _, _, _, _, _, hargs⟩ := HV.out.args
          obtain ⟨b, k0, k1, k2, B0', m0, c0, rfl, _, hbl, d0, d1, d2, d3, hti⟩ := hargs i him
          have hbl1 : b < _ := Nat.lt_of_lt_of_le hbl hs1
          have d0 := (B1.out.cell (p := ⟨b, i * 4, none⟩) hbl).trans d0
          have d1 := (B1.out.cell (p := ⟨b, i * 4 + 1, none⟩) hbl).trans d1
          have d2 := (B1.out.cell (p := ⟨b, i * 4 + 2, none⟩) hbl).trans d2
          have d3 := (B1.out.cell (p := ⟨b, i * 4 + 3, none⟩) hbl).trans d3
          have HTI := Lib.hid hti
          have CX := Lib.hid (show ReachC r L K (au i) from by
            have h4 := HK4.out
            subst h4
            exact IT.out _ _ _ _ rfl i him)
          have HRI := Lib.hid (show ∀ u, (au i).hasV u → r u < K from fun u hu => HRK.out u (.inr ⟨HK4.out, i, him, hu⟩))
          clear hti hargs
          go_wp2_with fail
          refine (CX.out _ A c _ _ n1 (H.out.below B1.out) (HTI.out.below B1.out) (ht.arg him) HRI.out I1.out A1'.out.nd A1'.out.inr).mono ?_
          rintro e w5 ⟨⟨v5, n5, rfl, hi5, hs5⟩, h5⟩
          have I5 := Lib.hid hi5
          have S5 := Lib.hid hs5
          have B5 := Lib.hid (B1.out.trans (h5.mono B1.out.size))
          have X5 := Lib.hid ((h5.block _ hlt1).trans X1.out)
          clear hi5 hs5 h5
          go_wp2_with fail
          go_roundw
          case rel => exact ⟨i + 1, n5, by go_num, him, I5.out, A1'.out.succ S5.out, B5.out, X5.out⟩
          case measure => simp [intOf]; omega
        · obtain rfl : i = m1 := by omega
          have S0 := Lib.hid (show RSet L (.mk k n s i au) ns n1 from by
            have h4 := HK4.out
            subst h4
            exact A1'.out.done)
          go_wp2_with fail
          go_ret
          exact ⟨⟨_, n1, rfl, I1.out, S0.out⟩, B1.out⟩
theorem reach_any {r : Int → Nat} {L : Bs} (hL : EnvOk L) (hr : ∀ p ∈ L, ∀ v, p.2.hasV v → r v < r p.1) : ∀ K t, ReachC r L K t := by
  intro K
  induction K using Nat.strongRecOn with
  | _ K ihK =>
    intro t
    induction t with
    | nil => intro w A c v mv ns _ hv; exact hv.elim
    | mk k n' s m a ih => exact reach_step hL hr ihK fun n2 s2 m2 a2 e i _ => by injection e with _ _ _ _ e; subst e; exact ih i
/-- What the reference's occurs answers. -/
def OccR (L : Bs) (n : Int) (t : T) (w : World) (e : Ending) (w' : World) : Prop := (∃ b, e = .returned (.bool b) ∧ (b = true ↔ Reach L n t)) ∧ Below w.heap.size w w'
set_option maxRecDepth 100000 in
set_option maxHeartbeats 4000000 in
theorem roccurs_any {w : World} {A : Option Addr} {c : Nat} {L : Bs} (hbl : BL w A c L) (hL : EnvOk L) {t : T} {v : Value} (hv : TP w (fun _ => True) t v) (ht : t.ok) (n : Int) :
    Calls Try.prog 60 #[.slice A L.length c, .int .i64 n, v] w fun e w' => OccR L n t w e w' := by
  obtain ⟨k, nn, s, A1, m1, c1, rfl⟩ := hv.agg
  obtain ⟨r, hr⟩ := hL.acyc
  obtain ⟨K, hK⟩ := rank_bound r t
  have B0 := Lib.hid ((Below.refl w.heap.size w).alloc (Nat.le_refl _) (Obj.cells #[.int .i64 k, .int .i64 nn, .string s, .slice A1 m1 c1] 40))
  have CX := Lib.hid (reach_any hL hr K t _ A c _ _ [] (hbl.below B0.out) (hv.below B0.out) ht hK (IRow.nil _) List.Pairwise.nil (fun _ h => absurd h List.not_mem_nil))
  clear hr hK hbl hv
  go_enter Try.func60, Try.ntmps60
  go_wp2_with fail
  refine CX.out.mono ?_
  rintro e w5 ⟨⟨v5, ns, rfl, hi5, hs5⟩, h5⟩
  obtain ⟨MA, mc, rfl, hmc, _, hmx⟩ := hi5.open_
  have HMX := Lib.hid hmx
  have HALL := Lib.hid (show ∀ b : Bool, (b = true ↔ n ∈ ns) → (b = true ↔ Reach L n t) from fun b hb => hb.trans (hs5.all n))
  have hfew := nodup_few 1000 ns hs5.nd hs5.inr
  have B5 := Lib.hid (B0.out.trans (h5.mono B0.out.size))
  clear hi5 hmx hs5 h5
  go_wp2_with fail
  go_loop [8] (fun iv => ∃ i : Nat, iv = .int .i64 (i : Int) ∧ i ≤ ns.length ∧ ∀ (q : Nat) (x : Int), q < i → ns[q]? = some x → x ≠ n) (fun iv => ns.length - (intOf iv).toNat)
  case atStart => exact ⟨0, rfl, Nat.zero_le _, fun q x hq => absurd hq (by omega)⟩
  case round =>
    obtain ⟨i, rfl, hi, hno⟩ := hrel
    have HN := Lib.hid hno
    clear hno
    by_cases him : i < ns.length
    · have him' : (i : Int) < (ns.length : Int) := by omega
      obtain ⟨x, hx⟩ : ∃ x, ns[i]? = some x := ⟨ns[i]'(by omega), List.getElem?_eq_getElem _⟩
      obtain ⟨g, rfl, hg, hc⟩ := HMX.out i x hx
      have HX := Lib.hid hx
      clear hx
      cases hxn : (x == n) with
      | true =>
        go_wp2_with fail
        go_ret
        refine ⟨⟨true, rfl, HALL.out true ⟨fun _ => ?_, fun _ => rfl⟩⟩, B5.out⟩
        have : x = n := by simpa using hxn
        rw [← this]; exact List.mem_of_getElem? HX.out
      | false =>
        have hne : x ≠ n := by simpa using hxn
        have HNE := Lib.hid hne
        clear hne
        go_wp2_with fail
        go_round
        case rel =>
          refine ⟨i + 1, by go_num, him, fun q y hq hy => ?_⟩
          by_cases hqi : q = i
          · subst hqi; rw [HX.out] at hy; injection hy with hy; subst hy; exact HNE.out
          · exact HN.out q y (by omega) hy
        case measure => simp [intOf]; omega
    · obtain rfl : i = ns.length := by omega
      go_wp2_with fail
      go_ret
      refine ⟨⟨false, rfl, HALL.out false ⟨(fun h => by cases h), fun hmem => ?_⟩⟩, B5.out⟩
      obtain ⟨q, hq, hqe⟩ := List.getElem_of_mem hmem
      exact absurd rfl (HN.out q n hq (by rw [List.getElem?_eq_getElem hq, hqe]))
end Go.Proofs.Ytgoedlbdnmhppaa
