/- The walk through the closure of unify.occurs: is a variable within a term, once resolved? -/
import Derived.Test.YtjjkigphfijnbaaUni3
namespace Go.Proofs.Ytjjkigphfijnbaa
open Go.RowKit

def WithinP (L : Bs) (n : Int) (t : T) (w : World) (E Nb Sb Wb eb mb sb N : Nat) (S : List Int) (e : Ending) (w' : World) : Prop :=
  ∃ b, e = .returned (.bool b) ∧ (b = true ↔ Reach L n t) ∧ ∃ S', Oc w' E Nb Sb Wb eb mb sb N n L S' ∧ But sb w w' ∧ (b = false → ∀ u ∈ S', u ∈ S ∨ ¬ Reach L n (varT u))
/-- What the closure answers at a term, its variables' ranks below K. -/
def WithinC (r : Int → Nat) (L : Bs) (n : Int) (K : Nat) (t : T) : Prop := ∀ (w : World) (E Nb Sb Wb eb mb sb N : Nat) (S : List Int) (v : Value), Oc w E Nb Sb Wb eb mb sb N n L S → TP w (fun _ => True) t v → t.ok → (∀ u, t.hasV u → r u < K) →
  (∀ u ∈ S, ¬ Reach L n (varT u) ∨ K ≤ r u) →
  Calls Try.prog 77 #[v, .pointer (some ⟨E, 0, none⟩), .pointer (some ⟨Nb, 0, none⟩), .pointer (some ⟨Sb, 0, none⟩), .pointer (some ⟨Wb, 0, none⟩)] w fun e w' => WithinP L n t w E Nb Sb Wb eb mb sb N S e w'
/-- The loop that goes along bindings: where it stands. -/
structure WLoop (r : Int → Nat) (L : Bs) (n : Int) (K : Nat) (t : T) (w : World) (E Nb Sb Wb eb mb sb N : Nat) (S : List Int) (wr : World) (u : T) (k' n' : Int) (s' : ByteArray) (A' : Option Addr) (m' c' : Nat) (S1 : List Int) (K1 : Nat) : Prop where
  box : wr.heap[w.heap.size]? = some (.cells #[.int .i64 k', .int .i64 n', .string s', .slice A' m' c'] 34 (0, 0))
  tp : TP wr (fun b => b < w.heap.size) u (.agg #[.int .i64 k', .int .i64 n', .string s', .slice A' m' c'])
  ok : u.ok
  oc : Oc wr E Nb Sb Wb eb mb sb N n L S1
  but : But sb w wr
  rk : ∀ v, u.hasV v → r v < K1
  old : ∀ v ∈ S1, ¬ Reach L n (varT v) ∨ K1 ≤ r v
  lex : K1 < K ∨ (K1 = K ∧ u = t)
  iff : Reach L n t ↔ Reach L n u
  new : ∀ v ∈ S1, v ∈ S ∨ (Reach L n (varT v) → Reach L n u)
/-- The loop over the arguments: where it stands. -/
structure WArgs (r : Int → Nat) (L : Bs) (n : Int) (w : World) (E Nb Sb Wb eb mb sb N : Nat) (S : List Int) (u : T) (au : Nat → T) (K1 : Nat) (wq : World) (i : Nat) (S2 : List Int) : Prop where
  oc : Oc wq E Nb Sb Wb eb mb sb N n L S2
  but : But sb w wq
  no : ∀ q, q < i → ¬ Reach L n (au q)
  old : ∀ v ∈ S2, ¬ Reach L n (varT v) ∨ K1 ≤ r v
  new : ∀ v ∈ S2, v ∈ S ∨ (Reach L n (varT v) → Reach L n u)
set_option maxRecDepth 100000 in
set_option maxHeartbeats 8000000 in
theorem within_step {r : Int → Nat} {L : Bs} {n : Int} {K : Nat} {t : T} (hr : ∀ p ∈ L, ∀ v, p.2.hasV v → r v < r p.1) (ihK : ∀ K' < K, ∀ u, WithinC r L n K' u) (ihT : ∀ k' n' s m a, t = .mk k' n' s m a → ∀ i, i < m → WithinC r L n K (a i)) : WithinC r L n K t := by
  intro w E Nb Sb Wb eb mb sb N S v hoc hv ht hrk hS
  obtain ⟨k, nn, s, A, m, c, rfl⟩ := hv.agg
  have H := Lib.hid hoc
  have HV := Lib.hid hv
  have HR := Lib.hid hr
  have IK := Lib.hid ihK
  have IT := Lib.hid ihT
  have HRK := Lib.hid hrk
  have HS := Lib.hid hS
  clear hoc hv hr ihK ihT hrk hS
  go_enter Try.func77, Try.ntmps77
  go_wp2_with fail
  go_loopw [6] (fun _ wr => ∃ u k' n' s' A' m' c' S1 K1, WLoop r L n K t w E Nb Sb Wb eb mb sb N S wr u k' n' s' A' m' c' S1 K1) (fun _ wr => msrW L r w.heap.size wr)
  case atStart =>
    have B0 := (Below.refl w.heap.size w).alloc (Nat.le_refl _) (Obj.cells #[.int .i64 k, .int .i64 nn, .string s, .slice A m c] 34)
    exact ⟨t, k, nn, s, A, m, c, S, K, heap_alloc_new _ _, HV.out.old.keep fun b cs f hS hh => ⟨(B0.block b hS.2).trans hh, hS.2⟩, ht, H.out.below B0, But.of B0, HRK.out, HS.out, .inr ⟨rfl, rfl⟩, Iff.rfl, fun v hv => .inl hv⟩
  case round =>
    obtain ⟨u, k', n', s', A', m', c', S1, K1, hl⟩ := hrel
    have R := Lib.hid hl
    obtain ⟨x0, x1, x2, x3⟩ := box4 hl.box
    have hgl := heap_lt hl.box
    have e0 := cell_of_row wr E 0 _ _ _ hl.oc.be
    have e1 := cell_of_row wr Nb 0 _ _ _ hl.oc.bn
    have e2 := cell_of_row wr Sb 0 _ _ _ hl.oc.bs
    have e3 := cell_of_row wr Wb 0 _ _ _ hl.oc.bw
    have e4 := cell_of_row wr eb 0 _ _ _ hl.oc.env.blk
    have xf : ∀ i, wr.frozen? ⟨w.heap.size, i, none⟩ = false := fun i => by simp [World.frozen?, hl.box]
    have l0 := heap_lt hl.oc.be
    have l1 := heap_lt hl.oc.bn
    have l2 := heap_lt hl.oc.bs
    have l3 := heap_lt hl.oc.bw
    obtain ⟨l4, l5⟩ := hl.oc.env.lt
    have l6 := hl.oc.seen.lt
    clear hl
    cases hk : (k' == 1) with
    | true =>
      have hk1 : k' = 1 := by simpa using hk
      obtain ⟨hv1, hn0, hn1⟩ : u.var? = some n' ∧ 0 ≤ n' ∧ n' < 1000 := by
        have htp := R.out.tp
        have hok := R.out.ok
        cases u with
        | nil => exact htp.elim
        | mk ku nu su mu au =>
          obtain ⟨_, _, e, _⟩ := htp
          injection e with e
          simp only [Array.mk.injEq, List.cons.injEq, and_true] at e
          obtain ⟨e1, e2, _⟩ := e
          injection e1 with _ e1
          injection e2 with _ e2
          subst e1; subst e2
          have := hok.var hk1
          exact ⟨var_iff.mpr ⟨hk1, rfl⟩, this.1, this.2.1⟩
      have hmbs : wr.heap[mb]? = w.heap[mb]? := R.out.but.block mb H.out.env.lt.2 H.out.ne
      obtain ⟨b, q0, q1, qs, qA, qm, qc, hrun, hb⟩ := H.out.env.look hn0 hn1
      have HBB := Lib.hid hb
      have HV1 := Lib.hid hv1
      have R0 := hrun wr.drew hmbs
      have KP : ∀ o : Obj, (wr.alloc o).drew.cell? ⟨E, 0, none⟩ = some (.pointer (some ⟨eb, 0, none⟩)) ∧ (wr.alloc o).drew.cell? ⟨eb, 0, none⟩ = some (.map (some mb)) ∧ (wr.alloc o).drew.cell? ⟨w.heap.size, 1, none⟩ = some (.int .i64 n') ∧
          (Instr.lookup 62 (.map (some mb)) (.int .i64 n') true).run Try.prog (wr.alloc o).drew = .ok (.tuple #[.agg #[.int .i64 q0, .int .i64 q1, .string qs, .slice qA qm qc], .bool b]) (wr.alloc o).drew := fun o => by
        have B := ((Below.refl wr.heap.size wr).alloc (Nat.le_refl _) o).drew
        exact ⟨(B.cell (p := ⟨E, 0, none⟩) l0).trans e0, (B.cell (p := ⟨eb, 0, none⟩) l4).trans e4, (B.cell (p := ⟨w.heap.size, 1, none⟩) hgl).trans x1, hrun _ ((B.block mb l5).trans hmbs)⟩
      have HKP := Lib.hid KP
      have B1 := Lib.hid (show Below wr.heap.size wr (wr.alloc (Obj.cells #[.int .i64 q0, .int .i64 q1, .string qs, .slice qA qm qc] 34)).drew from ((Below.refl wr.heap.size wr).alloc (Nat.le_refl _) _).drew)
      have O1 := Lib.hid (R.out.oc.below B1.out)
      have RS := O1.out.asked hn0 hn1
      have HM := Lib.hid (show msrW L r w.heap.size wr = cntR L r (r n' + 1) by rw [msrW_of R.out.box, if_pos hk1])
      have hnew := Lib.hid (heap_alloc_new wr (Obj.cells #[.int .i64 q0, .int .i64 q1, .string qs, .slice qA qm qc] 34))
      clear hrun hb hv1 hk1 hmbs KP
      by_cases hnn : n' = n
      · have hnb : (n' == n) = true := by simpa using hnn
        have RE := Lib.hid (show Reach L n t from R.out.iff.mpr (.var (by rw [HV1.out, hnn])))
        clear hnn
        go_wp2_with fail
        go_region_held3 (fun w' => w'.cell? ⟨E, 0, none⟩ = some (.pointer (some ⟨eb, 0, none⟩)) ∧ w'.cell? ⟨eb, 0, none⟩ = some (.map (some mb)) ∧ w'.cell? ⟨w.heap.size, 1, none⟩ = some (.int .i64 n') ∧ (Instr.lookup 62 (.map (some mb)) (.int .i64 n') true).run Try.prog w' = .ok (.tuple #[.agg #[.int .i64 q0, .int .i64 q1, .string qs, .slice qA qm qc], .bool b]) w')
          (first | exact ⟨e0, e4, x1, R0⟩ | exact HKP.out _) (fail)
        all_goals go_wp2_with fail
        all_goals go_ret
        all_goals exact ⟨true, rfl, ⟨fun _ => RE.out, fun _ => rfl⟩, S1, O1.out, R.out.but.trans (But.of B1.out), fun h => by cases h⟩
      · have hnb : (n' == n) = false := by simpa using hnn
        cases hin : decide (n' ∈ S1) with
        | true =>
          have hmem : n' ∈ S1 := by simpa using hin
          have NR := Lib.hid (show ¬ Reach L n u from fun h => by
            rcases R.out.old n' hmem with h1 | h1
            · exact h1 (reach_var HV1.out (varT_var n') h)
            · have := R.out.rk n' (var_has HV1.out); omega)
          rw [hin] at RS
          clear hnn hmem hin
          go_wp2_with fail
          go_region_held3 (fun w' => w'.cell? ⟨E, 0, none⟩ = some (.pointer (some ⟨eb, 0, none⟩)) ∧ w'.cell? ⟨eb, 0, none⟩ = some (.map (some mb)) ∧ w'.cell? ⟨w.heap.size, 1, none⟩ = some (.int .i64 n') ∧ (Instr.lookup 62 (.map (some mb)) (.int .i64 n') true).run Try.prog w' = .ok (.tuple #[.agg #[.int .i64 q0, .int .i64 q1, .string qs, .slice qA qm qc], .bool b]) w')
            (first | exact ⟨e0, e4, x1, R0⟩ | exact HKP.out _) (fail)
          all_goals go_wp2_with fail
          all_goals go_ret
          all_goals exact ⟨false, rfl, ⟨(fun h => by cases h), fun h => absurd (R.out.iff.mp h) NR.out⟩, S1, O1.out, R.out.but.trans (But.of B1.out), fun _ v hv => (R.out.new v hv).imp id fun h h' => NR.out (h h')⟩
        | false =>
          have hmem : ¬ n' ∈ S1 := by simpa using hin
          rw [hin] at RS
          clear hin
          cases b with
          | false =>
            have NR := Lib.hid (show ¬ Reach L n u from fun h => by
              cases h with
              | var e => rw [HV1.out] at e; injection e with e; exact hnn e
              | bind e hf hx =>
                rw [HV1.out] at e; injection e with e; subst e
                rcases HBB.out with ⟨h, _⟩ | ⟨_, h⟩
                · cases h
                · rw [h] at hf; cases hf
              | arg hi hx => have := HV1.out; rw [var_iff] at this; exact absurd this.1 (by decide))
            clear hnn hmem
            go_wp2_with fail
            go_region_held3 (fun w' => w'.cell? ⟨E, 0, none⟩ = some (.pointer (some ⟨eb, 0, none⟩)) ∧ w'.cell? ⟨eb, 0, none⟩ = some (.map (some mb)) ∧ w'.cell? ⟨w.heap.size, 1, none⟩ = some (.int .i64 n') ∧ (Instr.lookup 62 (.map (some mb)) (.int .i64 n') true).run Try.prog w' = .ok (.tuple #[.agg #[.int .i64 q0, .int .i64 q1, .string qs, .slice qA qm qc], .bool false]) w')
              (first | exact ⟨e0, e4, x1, R0⟩ | exact HKP.out _) (fail)
            all_goals go_wp2_with fail
            all_goals go_ret
            all_goals exact ⟨false, rfl, ⟨(fun h => by cases h), fun h => absurd (R.out.iff.mp h) NR.out⟩, S1, O1.out, R.out.but.trans (But.of B1.out), fun _ v hv => (R.out.new v hv).imp id fun h h' => NR.out (h h')⟩
          | true =>
            obtain ⟨x, hx, hxt⟩ : ∃ x, findB L n' = some x ∧ TP w (fun _ => True) x (.agg #[.int .i64 q0, .int .i64 q1, .string qs, .slice qA qm qc]) := by
              rcases HBB.out with ⟨_, h⟩ | ⟨h, _⟩
              · exact h
              · cases h
            obtain ⟨w2, hrun2, hoc2, hbut2⟩ := O1.out.mark hn0 hn1 hmem
            have hb2 := Lib.hid (R.out.but.trans ((But.of B1.out).trans hbut2))
            have hi1 := O1.out.seen.is
            have X2 := Lib.hid (hbut2.cells hi1 ((B1.out.block _ hgl).trans R.out.box))
            have Y2 := Lib.hid (hbut2.cells hi1 hnew.out)
            obtain ⟨p0, p1, p2, p3⟩ := box4 X2.out
            obtain ⟨z0, z1, z2, z3⟩ := box4 Y2.out
            have pf : ∀ i, w2.frozen? ⟨w.heap.size, i, none⟩ = false := fun i => by simp [World.frozen?, X2.out]
            have P := Lib.hid (box_put4 X2.out (.int .i64 q0) (.int .i64 q1) (.string qs) (.slice qA qm qc) rfl)
            have HO2 := Lib.hid hoc2
            have HXT := Lib.hid hxt
            have HX := Lib.hid hx
            have HMEM := Lib.hid hmem
            have hs2 := hbut2.size
            simp at hs2
            clear hoc2 hbut2 hx hxt hmem hnn
            have HL : Hid ((if q0 = 1 then cntR L r (r q1 + 1) else 0) < cntR L r (r n' + 1)) := Lib.hid (by
              have h2 := cntR_lt L r (findB_mem HX.out)
              simp only at h2
              split
              · rename_i hq
                have hv2 : x.hasV q1 := by
                  have hxt := HXT.out
                  cases x with
                  | nil => exact hxt.elim
                  | mk ku nu su mu au =>
                    obtain ⟨_, _, e, _⟩ := hxt
                    injection e with e
                    simp only [Array.mk.injEq, List.cons.injEq, and_true] at e
                    obtain ⟨e1, e2, _⟩ := e
                    injection e1 with _ e1
                    injection e2 with _ e2
                    subst e1; subst e2
                    exact .inl ⟨hq, rfl⟩
                have h1 := HR.out _ (findB_mem HX.out) q1 hv2
                have h3 := cntR_mono L r (k := r q1 + 1) (k' := r n') h1
                omega
              · omega)
            have BN := Lib.hid (show But sb w (((((w2.setCell ⟨w.heap.size, 0, none⟩ (.int .i64 q0)).setCell ⟨w.heap.size, 1, none⟩ (.int .i64 q1)).setCell ⟨w.heap.size, 2, none⟩ (.string qs)).setCell ⟨w.heap.size, 3, none⟩ (.slice qA qm qc))) from
              hb2.out.low (P.out.2.2.2 _ _ (Nat.le_refl _) (Below.refl w.heap.size w2)) (Nat.le_refl _))
            have RELP : Hid (∃ u k' n' s' A' m' c' S1 K1, WLoop r L n K t w E Nb Sb Wb eb mb sb N S (((((w2.setCell ⟨w.heap.size, 0, none⟩ (.int .i64 q0)).setCell ⟨w.heap.size, 1, none⟩ (.int .i64 q1)).setCell ⟨w.heap.size, 2, none⟩ (.string qs)).setCell ⟨w.heap.size, 3, none⟩ (.slice qA qm qc))) u k' n' s' A' m' c' S1 K1) := Lib.hid (by
              refine ⟨x, q0, q1, qs, qA, qm, qc, n' :: S1, r n', P.out.1, ?_, (H.out.env.ok.find HX.out).2.2, ?_, BN.out, fun v hv => HR.out _ (findB_mem HX.out) v hv, fun v hv => ?_, ?_, ?_, fun v hv => ?_⟩
              · exact HXT.out.old.keep fun b cs f hS hh => ⟨BN.out.cells H.out.seen.is hh, hS.2⟩
              · exact H.out.re BN.out (HO2.out.seen.keep (P.out.2.2.1 sb (by have := H.out.seen.lt; omega))) HO2.out.nd HO2.out.inr
              · have hlt := R.out.rk n' (var_has HV1.out)
                rcases List.mem_cons.mp hv with rfl | hv
                · exact .inr (Nat.le_refl _)
                · exact (R.out.old v hv).imp id fun h => by omega
              · have hlt := R.out.rk n' (var_has HV1.out)
                rcases R.out.lex with h | ⟨h, _⟩
                · exact .inl (by omega)
                · exact .inl (by omega)
              · exact R.out.iff.trans ⟨fun h => by
                  cases h with
                  | var e => rw [HV1.out] at e; injection e with e; exact absurd e (by simpa using hnb)
                  | bind e hf hx => rw [HV1.out] at e; injection e with e; subst e; rw [HX.out] at hf; injection hf with hf; subst hf; exact hx
                  | arg hi hx => have := HV1.out; rw [var_iff] at this; exact absurd this.1 (by decide), fun h => .bind HV1.out HX.out h⟩
              · have hu : Reach L n u → Reach L n x := fun h => by
                  cases h with
                  | var e => rw [HV1.out] at e; injection e with e; exact absurd e (by simpa using hnb)
                  | bind e hf hx => rw [HV1.out] at e; injection e with e; subst e; rw [HX.out] at hf; injection hf with hf; subst hf; exact hx
                  | arg hi hx => have := HV1.out; rw [var_iff] at this; exact absurd this.1 (by decide)
                rcases List.mem_cons.mp hv with rfl | hv
                · exact .inr fun h => hu (reach_var (varT_var _) HV1.out h)
                · exact (R.out.new v hv).imp id fun h h' => hu (h h'))
            go_wp2_with fail
            go_region_held3 (fun w' => w'.cell? ⟨E, 0, none⟩ = some (.pointer (some ⟨eb, 0, none⟩)) ∧ w'.cell? ⟨eb, 0, none⟩ = some (.map (some mb)) ∧ w'.cell? ⟨w.heap.size, 1, none⟩ = some (.int .i64 n') ∧ (Instr.lookup 62 (.map (some mb)) (.int .i64 n') true).run Try.prog w' = .ok (.tuple #[.agg #[.int .i64 q0, .int .i64 q1, .string qs, .slice qA qm qc], .bool true]) w')
              (first | exact ⟨e0, e4, x1, R0⟩ | exact HKP.out _) (fail)
            go_wp2_with fail
            all_goals go_roundw
            all_goals first
              | exact RELP.out
              | (rw [HM.out]; exact Nat.lt_of_le_of_lt (Nat.le_of_eq (msrW_of P.out.1)) HL.out)
              | exact ⟨RELP.out, by rw [HM.out]; exact Nat.lt_of_le_of_lt (Nat.le_of_eq (msrW_of P.out.1)) HL.out⟩
    | false =>
      have hk1 : k' ≠ 1 := by simpa using hk
      obtain ⟨ku, nu, su, mu, au, rfl⟩ : ∃ ku nu su mu au, u = .mk ku nu su mu au := by
        have htp := R.out.tp
        cases u with
        | nil => exact htp.elim
        | mk ku nu su mu au => exact ⟨_, _, _, _, _, rfl⟩
      obtain ⟨a0, a1, a2, rfl, hmc, hA, _⟩ := R.out.tp.args
      injection a0 with _ a0
      injection a1 with _ a1
      injection a2 with a2
      subst a0; subst a1; subst a2
      have hfew := R.out.ok.few
      have hk4 : 0 < m' → k' = 4 := fun h => Classical.byContradiction fun e => by have := R.out.ok.plain e; omega
      have hnv : ∀ v, (T.mk k' n' s' m' au).var? ≠ some v := fun v h => hk1 (var_iff.mp h).1
      have HNV := Lib.hid hnv
      have A0 := Lib.hid (show WArgs r L n w E Nb Sb Wb eb mb sb N S (.mk k' n' s' m' au) au K1 wr 0 S1 from ⟨R.out.oc, R.out.but, fun q hq => absurd hq (by omega), R.out.old, R.out.new⟩)
      have HK4 := Lib.hid hk4
      clear hnv hk4 hk1
      go_wp2_with fail
      go_loopw [45] (fun iv wq => ∃ (i : Nat) (S2 : List Int), iv = .int .i64 (i : Int) ∧ i ≤ m' ∧ WArgs r L n w E Nb Sb Wb eb mb sb N S (.mk k' n' s' m' au) au K1 wq i S2) (fun iv _ => m' - (intOf iv).toNat)
      case atStart => exact ⟨0, S1, rfl, Nat.zero_le _, A0.out⟩
      case round =>
        clear A0 x0 x1 x2 x3 e0 e1 e2 e3 e4 xf
        obtain ⟨i, S2, rfl, hi, ha⟩ := hrel
        have Q := Lib.hid ha
        have q3 : wr.cell? ⟨Wb, 0, none⟩ = some (.func (.func 77) #[] #[.pointer (some ⟨E, 0, none⟩), .pointer (some ⟨Nb, 0, none⟩), .pointer (some ⟨Sb, 0, none⟩), .pointer (some ⟨Wb, 0, none⟩)]) := cell_of_row wr Wb 0 _ _ _ ha.oc.bw
        have hwb := heap_lt ha.oc.bw
        have hsz := ha.but.size
        clear ha
        by_cases him : i < m'
        · have him' : (i : Int) < (m' : Int) := by omega
          have TPq : TP wr (fun b => b < w.heap.size) (.mk k' n' s' m' au) (.agg #[.int .i64 k', .int .i64 n', .string s', .slice A' m' c']) := R.out.tp.keep fun b cs f hS hh => by
            have hne : b ≠ sb := by
              rintro rfl
              obtain ⟨es, clock, h2⟩ := R.out.oc.seen.is
              rw [h2] at hh; cases hh
            exact ⟨(Q.out.but.block b hS hne).trans ((R.out.but.block b hS hne).symm.trans hh), hS⟩
          obtain ⟨_, _, _, _, _, _, hargs⟩ := TPq.args
          obtain ⟨b, k0, k1, k2, B0, m0, c0, rfl, hbw, hbl, d0, d1, d2, d3, hti⟩ := hargs i him
          have HTI := Lib.hid hti
          have HNO := Lib.hid (show ∀ h : WithinC r L n K1 (au i), Calls Try.prog 77 #[.agg #[.int .i64 k0, .int .i64 k1, .string k2, .slice B0 m0 c0], .pointer (some ⟨E, 0, none⟩), .pointer (some ⟨Nb, 0, none⟩), .pointer (some ⟨Sb, 0, none⟩), .pointer (some ⟨Wb, 0, none⟩)] (wr.alloc (Obj.cells #[.int .i64 k0, .int .i64 k1, .string k2, .slice B0 m0 c0] 34)) fun e w' => WithinP L n (au i) (wr.alloc (Obj.cells #[.int .i64 k0, .int .i64 k1, .string k2, .slice B0 m0 c0] 34)) E Nb Sb Wb eb mb sb N S2 e w' from fun h =>
            h _ E Nb Sb Wb eb mb sb N S2 _ (Q.out.oc.below ((Below.refl _ _).alloc (Nat.le_refl _) _)) ((HTI.out.below ((Below.refl _ _).alloc (Nat.le_refl _) _)).more fun _ _ => trivial) (R.out.ok.arg him) (fun v hv => R.out.rk v (.inr ⟨HK4.out (by omega), i, him, hv⟩)) Q.out.old)
          have HI : Hid (WithinC r L n K1 (au i)) := Lib.hid (by
            rcases R.out.lex with h | ⟨h1, h2⟩
            · exact IK.out K1 h _
            · subst h1; exact IT.out _ _ _ _ _ h2.symm i him)
          clear hti hargs TPq
          go_wp2_with fail
          refine (HNO.out HI.out).mono ?_
          rintro e w5 ⟨bb, rfl, hbb, S3, hoc3, hbut3, hnew3⟩
          have BB := Lib.hid hbb
          have O3 := Lib.hid hoc3
          have U3 := Lib.hid (Q.out.but.trans ((But.of ((Below.refl _ _).alloc (Nat.le_refl _) (Obj.cells #[.int .i64 k0, .int .i64 k1, .string k2, .slice B0 m0 c0] 34))).trans hbut3))
          have N3 := Lib.hid hnew3
          clear hbb hoc3 hbut3 hnew3 HNO
          cases bb with
          | true =>
            go_wp2_with fail
            go_ret
            have h4 := HK4.out (by omega)
            subst h4
            exact ⟨true, rfl, ⟨fun _ => R.out.iff.mpr (.arg him (BB.out.mp (by simp))), fun _ => rfl⟩, S3, O3.out, U3.out, fun h => by cases h⟩
          | false =>
            have hno : ¬ Reach L n (au i) := fun h => by have := BB.out.mpr h; cases this
            have HN := Lib.hid hno
            clear hno
            go_wp2_with fail
            go_roundw
            case rel =>
              refine ⟨i + 1, S3, by go_num, him, O3.out, U3.out, fun q hq => ?_, fun v hv => ?_, fun v hv => ?_⟩
              · by_cases hqi : q = i
                · subst hqi; exact HN.out
                · exact Q.out.no q (by omega)
              · rcases N3.out (by simp) v hv with h | h
                · exact Q.out.old v h
                · exact .inl h
              · rcases N3.out (by simp) v hv with h | h
                · exact Q.out.new v h
                · exact .inr fun h' => absurd h' h
            case measure => simp [intOf]; omega
        · obtain rfl : i = m' := by omega
          have NR := Lib.hid (show ¬ Reach L n (.mk k' n' s' i au) from fun h => by
            cases h with
            | var e => exact HNV.out _ e
            | bind e _ _ => exact HNV.out _ e
            | arg hi hx => exact Q.out.no _ hi hx)
          go_wp2_with fail
          go_ret
          exact ⟨false, rfl, ⟨(fun h => by cases h), fun h => absurd (R.out.iff.mp h) NR.out⟩, S2, Q.out.oc, Q.out.but, fun _ v hv => (Q.out.new v hv).imp id fun h h' => NR.out (h h')⟩
theorem within_any {r : Int → Nat} {L : Bs} {n : Int} (hr : ∀ p ∈ L, ∀ v, p.2.hasV v → r v < r p.1) : ∀ K t, WithinC r L n K t := by
  intro K
  induction K using Nat.strongRecOn with
  | _ K ihK =>
    intro t
    induction t with
    | nil => intro w E Nb Sb Wb eb mb sb N S v _ hv; exact hv.elim
    | mk k n' s m a ih => exact within_step hr ihK fun k2 n2 s2 m2 a2 e i _ => by injection e with _ _ _ _ e; subst e; exact ih i
end Go.Proofs.Ytjjkigphfijnbaa
