/- Variables that are made the same in a row: the plain law of UnifyChain. The walk through the law UnifyChain. -/
import Derived.Test.YtjjkigphfijnbaaFails0
import Derived.Test.YtjjkigphfijnbaaRes0
import Derived.Test.YtjjkigphfijnbaaQuote
import Derived.Test.YtjjkigphfijnbaaScript
namespace Go.Proofs.Ytjjkigphfijnbaa
open Go.RowKit

theorem walk_done' {L : Bs} {t : T} (h : doneW L t) : walkN L t = t := walkF_more (i := 0) h _ (Nat.zero_le _)
theorem findB_more {L M : Bs} {n : Int} {x : T} (h : findB L n = some x) : findB (L ++ M) n = some x := by
  induction L with
  | nil => cases h
  | cons p L ih =>
    obtain ⟨k, y⟩ := p
    simp only [List.cons_append, findB] at h ⊢
    by_cases e : k = n
    · rw [if_pos e] at h ⊢; exact h
    · rw [if_neg e] at h ⊢; exact ih h
/-- What a term stands for behind more bindings. -/
theorem walk_app {L M : Bs} (h : EnvOk (L ++ M)) (t : T) : walkN (L ++ M) t = walkN (L ++ M) (walkN L t) := by
  have main : ∀ j, ∃ i, walkF (L ++ M) i t = walkF L j t := by
    intro j
    induction j with
    | zero => exact ⟨0, rfl⟩
    | succ j ih =>
      obtain ⟨i, hi⟩ := ih
      cases hv : (walkF L j t).var? with
      | none => exact ⟨i, by rw [hi]; simp only [walkF, stepW, hv]⟩
      | some n =>
        cases hf : findB L n with
        | none => exact ⟨i, by rw [hi]; simp only [walkF, stepW, hv, hf]⟩
        | some x => exact ⟨i + 1, by simp only [walkF, hi, stepW, hv, hf, findB_more hf]⟩
  obtain ⟨i, hi⟩ := main L.length
  have comm : ∀ j, walkF (L ++ M) j (walkF (L ++ M) i t) = walkF (L ++ M) (j + i) t := by
    intro j
    induction j with
    | zero => simp [walkF]
    | succ j ih => simp only [walkF, ih]; rw [show j + 1 + i = (j + i) + 1 by omega]; rfl
  show walkN (L ++ M) t = walkN (L ++ M) (walkF L L.length t)
  rw [← hi]
  unfold walkN
  rw [comm]
  exact (walkF_more (h.walk_done t) _ (Nat.le_add_right _ _)).symm
/-- The variables vs have been made the same: they stand for m, the least of them. -/
structure ChL (vs : List Int) (m : Int) (L : Bs) : Prop where
  ok : EnvOk L
  nil : vs = [] → L = []
  root : findB L m = none
  walk : ∀ x ∈ vs, walkN L (varT x) = varT m
  free : ∀ x, x ∉ vs → findB L x = none
  mem : vs ≠ [] → m ∈ vs
  least : ∀ x ∈ vs, m ≤ x
  rng : ∀ x ∈ vs, 0 ≤ x ∧ x < 1000
theorem ChL.start (m : Int) : ChL [] m [] := ⟨EnvOk.nil, fun _ => rfl, rfl, fun _ h => absurd h List.not_mem_nil, fun _ _ => rfl, fun h => absurd rfl h, fun _ h => absurd h List.not_mem_nil, fun _ h => absurd h List.not_mem_nil⟩
theorem uni_var_same (L : Bs) (x : Int) {a b : T} (ha : walkN L a = varT x) (hb : walkN L b = varT x) : uniF 2000 L [(a, b)] = .ok L 1999 := by
  simp only [uniF, ha, hb]
  simp [stepU, varT, pairsOf, uniF_nil]
theorem varT_done {L : Bs} {x : Int} (h : findB L x = none) : doneW L (varT x) := fun n hn => by rw [varT_var] at hn; injection hn with hn; subst hn; exact h
theorem walk_bound {L : Bs} (h : EnvOk L) {x y : Int} (hx : findB L x = some (varT y)) (hy : findB L y = none) : walkN L (varT x) = varT y := by
  have e : walkF L 1 (varT x) = varT y := by simp only [walkF, stepW, varT_var, hx]
  rw [walkN_eq h (j := 1) (by rw [e]; exact varT_done hy), e]
/-- One more. -/
theorem ChL.step {vs : List Int} {m x f : Int} {L : Bs} (h : ChL vs m L) (hx0 : 0 ≤ x) (hx1 : x < 1000) (hf : vs = [] → f = x) (hf2 : vs ≠ [] → f ∈ vs) :
    ∃ L' m', uniF 2000 L [(varT x, varT f)] = .ok L' 1999 ∧ (∃ M, L' = L ++ M) ∧ ChL (vs ++ [x]) m' L' ∧ (vs = [] → m' = x) ∧ (vs ≠ [] → m' = min m x) := by
  by_cases hv : vs = []
  · subst hv
    have hfx := hf rfl
    subst hfx
    have hL := h.nil rfl
    subst hL
    refine ⟨[], f, uni_var_same [] f (walk_done' (varT_done rfl)) (walk_done' (varT_done rfl)), ⟨[], rfl⟩, ⟨EnvOk.nil, fun h => (by simp at h), rfl, fun y hy => ?_, fun _ _ => rfl, fun _ => by simp, fun y hy => ?_, fun y hy => ?_⟩, fun _ => rfl, fun h => absurd rfl h⟩
    · simp at hy; subst hy; exact walk_done' (varT_done rfl)
    · simp at hy; omega
    · simp at hy; omega
  · have hm := h.mem hv
    have hwf := h.walk f (hf2 hv)
    obtain ⟨hm0, hm1⟩ := h.rng m hm
    by_cases hxv : x ∈ vs
    · refine ⟨L, m, uni_var_same L m (h.walk x hxv) hwf, ⟨[], by simp⟩, ⟨h.ok, fun e => (by simp at e), h.root, fun y hy => ?_, fun y hy => h.free y fun e => hy (List.mem_append.mpr (.inl e)), fun _ => List.mem_append.mpr (.inl hm), fun y hy => ?_, fun y hy => ?_⟩, fun e => absurd e hv, fun _ => by have := h.least x hxv; omega⟩
      all_goals
        rcases List.mem_append.mp hy with hy | hy
        · first | exact h.walk y hy | exact h.least y hy | exact h.rng y hy
        · simp at hy; subst hy; first | exact h.walk y hxv | exact h.least y hxv | exact h.rng y hxv
    · have hxm : x ≠ m := fun e => hxv (e ▸ hm)
      have hxf := h.free x hxv
      have hwx : walkN L (varT x) = varT x := walk_done' (varT_done hxf)
      have key : ∀ o r : Int, findB L o = none → findB L r = none → o ≠ r → 0 ≤ o → o < 1000 → 0 ≤ r → r < 1000 → EnvOk (L ++ [(o, varT r)]) ∧ findB (L ++ [(o, varT r)]) o = some (varT r) ∧ findB (L ++ [(o, varT r)]) r = none ∧ ∀ y, y ≠ o → findB L y = none → findB (L ++ [(o, varT r)]) y = none := by
        intro o r ho hr hne ho0 ho1 hr0 hr1
        refine ⟨h.ok.bind ho ho0 ho1 (varT_ok hr0 hr1) fun hre => ?_, by rw [findB_append, ho]; simp, by rw [findB_append, hr]; simp [hne], fun y hy hf => by rw [findB_append, hf]; simp; exact fun e => hy e.symm⟩
        cases hre with
        | var e => rw [varT_var] at e; injection e with e; exact hne e.symm
        | bind e hf _ => rw [varT_var] at e; injection e with e; subst e; rw [hr] at hf; cases hf
      by_cases hlt : x < m
      · obtain ⟨k1, k2, k3, k4⟩ := key m x h.root hxf (fun e => hxm e.symm) hm0 hm1 hx0 hx1
        have hw : ∀ y ∈ vs, walkN (L ++ [(m, varT x)]) (varT y) = varT x := fun y hy => by rw [walk_app k1, h.walk y hy]; exact walk_bound k1 k2 k3
        refine ⟨L ++ [(m, varT x)], x, ?_, ⟨_, rfl⟩, ⟨k1, fun e => (by simp at e), k3, fun y hy => ?_, fun y hy => k4 y (fun e => hy (List.mem_append.mpr (.inl (e ▸ hm)))) (h.free y fun e => hy (List.mem_append.mpr (.inl e))), fun _ => by simp, fun y hy => ?_, fun y hy => ?_⟩, fun e => absurd e hv, fun _ => by omega⟩
        · simp only [uniF, hwx, hwf]
          simp [stepU, varT, hxm, hlt]
        · rcases List.mem_append.mp hy with hy | hy
          · exact hw y hy
          · simp at hy; subst hy; exact walk_done' (varT_done k3)
        · rcases List.mem_append.mp hy with hy | hy
          · have := h.least y hy; omega
          · simp at hy; omega
        · rcases List.mem_append.mp hy with hy | hy
          · exact h.rng y hy
          · simp at hy; omega
      · obtain ⟨k1, k2, k3, k4⟩ := key x m hxf h.root hxm hx0 hx1 hm0 hm1
        have hw : ∀ y ∈ vs, walkN (L ++ [(x, varT m)]) (varT y) = varT m := fun y hy => by rw [walk_app k1, h.walk y hy]; exact walk_done' (varT_done k3)
        refine ⟨L ++ [(x, varT m)], m, ?_, ⟨_, rfl⟩, ⟨k1, fun e => (by simp at e), k3, fun y hy => ?_, fun y hy => k4 y (fun e => hy (List.mem_append.mpr (.inr (by simp [e])))) (h.free y fun e => hy (List.mem_append.mpr (.inl e))), fun _ => List.mem_append.mpr (.inl hm), fun y hy => ?_, fun y hy => ?_⟩, fun e => absurd e hv, fun _ => by omega⟩
        · simp only [uniF, hwx, hwf]
          simp [stepU, varT, hxm, hlt]
        · rcases List.mem_append.mp hy with hy | hy
          · exact hw y hy
          · simp at hy; subst hy; exact walk_bound k1 k2 k3
        · rcases List.mem_append.mp hy with hy | hy
          · exact h.least y hy
          · simp at hy; omega
        · rcases List.mem_append.mp hy with hy | hy
          · exact h.rng y hy
          · simp at hy; omega
/-! An atom in the place of all of them. -/
def atomT (s : ByteArray) : T := .mk 3 0 s 0 fun _ => .nil
theorem atomT_ok {s : ByteArray} (h : s.size ≤ 4096) : (atomT s).ok := ⟨⟨.inr (.inr (.inl ⟨rfl, rfl, h, rfl⟩)), fun i hi => absurd hi (by omega)⟩, by simp [atomT, T.nodes, sumTo]⟩
theorem atomT_free (L : Bs) (n : Int) (s : ByteArray) : ¬ Reach L n (atomT s) := fun h => by
  cases h with
  | var e => cases e
  | bind e _ _ => cases e
theorem atom_walk (L : Bs) (s : ByteArray) : walkN L (atomT s) = atomT s := walk_done' fun n hn => by cases hn
theorem uni_atom {vs : List Int} {m x : Int} {L : Bs} (h : ChL vs m L) (hx : x ∈ vs) (s : ByteArray) : uniF 2000 L [(varT x, atomT s)] = .ok (L ++ [(m, atomT s)]) 1999 := by
  have hr := atomT_free L m s
  simp only [uniF, h.walk x hx, atom_walk]
  simp only [atomT] at hr ⊢
  simp [stepU, varT, hr]
theorem uni_atom2 {vs : List Int} {m x : Int} {L : Bs} (h : ChL vs m L) (hx : x ∈ vs) {s : ByteArray} (hok : EnvOk (L ++ [(m, atomT s)])) : uniF 2000 (L ++ [(m, atomT s)]) [(varT x, atomT s)] = .ok (L ++ [(m, atomT s)]) 1999 := by
  have e1 : findB (L ++ [(m, atomT s)]) m = some (atomT s) := by rw [findB_append, h.root]; simp
  have e2 : walkF (L ++ [(m, atomT s)]) 1 (varT m) = atomT s := by simp only [walkF, stepW, varT_var, e1]
  have e3 : walkN (L ++ [(m, atomT s)]) (varT m) = atomT s := by rw [walkN_eq hok (j := 1) (by rw [e2]; intro n hn; cases hn), e2]
  have hw : walkN (L ++ [(m, atomT s)]) (varT x) = atomT s := by rw [walk_app hok, h.walk x hx, e3]
  simp only [uniF, hw, atom_walk]
  simp [stepU, atomT, pairsOf, uniF_nil]
theorem uni_atom_int (L : Bs) (s : ByteArray) : uniF 2000 L [(atomT s, intT 1)] = .unlike := by
  have hi : walkN L (intT 1) = intT 1 := walk_done' fun n hn => by cases hn
  simp only [uniF, atom_walk, hi]
  simp [stepU, atomT, intT]
theorem ChL.res {vs : List Int} {m x : Int} {L : Bs} (h : ChL vs m L) (hx : x ∈ vs) {f : Nat} (hd : Deep L f (varT x)) : resF L f (varT x) = varT m := by
  cases f with
  | zero => exact hd.elim
  | succ f => exact resF_leaf (k := 1) (n := m) (s := ⟨#[]⟩) (m := 0) (a := fun _ => .nil) (h.walk x hx) (by decide) f
end Go.Proofs.Ytjjkigphfijnbaa
namespace Go.Proofs.Ytjjkigphfijnbaa
open Go.RowKit
attribute [local go_sem ↓] Go.wp_at_zero Go.wp_at_succ

/-- Where the law stands: the environment. -/
structure CS (w w' : World) (eb mb N : Nat) (L : Bs) : Prop where
  env : EnvP w' eb mb N L
  low : Below w.heap.size w w'
  mlo : w.heap.size ≤ mb
theorem CS.below {w w' w'' : World} {eb mb N : Nat} {L : Bs} (h : CS w w' eb mb N L) (hb : Below w'.heap.size w' w'') : CS w w'' eb mb N L := ⟨h.env.below hb, h.low.trans (hb.mono h.low.size), h.mlo⟩
theorem CS.after {w w' w'' : World} {eb mb N N' : Nat} {L L' : Bs} (h : CS w w' eb mb N L) (hb : But mb w' w'') (he : EnvP w'' eb mb N' L') : CS w w'' eb mb N' L' := ⟨he, h.low.trans (hb.below h.mlo h.low.size), h.mlo⟩
def vsOf (z : Nat → Nat) (i : Nat) : List Int := (List.range i).map fun j => (z j : Int)
theorem vsOf_succ (z : Nat → Nat) (i : Nat) : vsOf z (i + 1) = vsOf z i ++ [(z i : Int)] := by simp [vsOf, List.range_succ]
theorem vsOf_mem (z : Nat → Nat) {i j : Nat} (h : j < i) : (z j : Int) ∈ vsOf z i := List.mem_map.mpr ⟨j, List.mem_range.mpr h, rfl⟩
theorem vsOf_nil {z : Nat → Nat} {i : Nat} (h : vsOf z i = []) : i = 0 := by
  cases i with
  | zero => rfl
  | succ i => rw [vsOf_succ] at h; simp at h
theorem ok_drop (L M : Bs) (f : Nat) : newB L (.ok (L ++ M) f) = M := newB_ok L M f
set_option maxRecDepth 100000 in
set_option maxHeartbeats 16000000 in
theorem chain_any (A : Option Addr) (len cap : Nat) (z : Nat → Nat) (value : ByteArray) (w : World) (hcap : len ≤ cap) (hz : ∀ i, i < len → z i ≤ 255)
    (hc : 0 < len → ∃ b off, A = some ⟨b, off, none⟩ ∧ b < w.heap.size ∧ ∀ i, i < len → w.cell? ⟨b, off + i, none⟩ = some (.int .u8 (z i : Int))) :
    Calls Try.prog 4 #[.slice A len cap, .string value] w fun e w' => e = .returned (.bool true) ∧ Below w.heap.size w w' := by
  by_cases h1 : (60 : Int) < (len : Int)
  · clear hz hc
    go_enter Try.func4, Try.ntmps4
    go_wp2_with fail
    go_ret
    exact ⟨rfl, Below.refl _ _⟩
  · by_cases h2 : (200 : Int) < (value.size : Int)
    · clear hz hc
      go_enter Try.func4, Try.ntmps4
      go_wp2_with fail
      go_ret
      exact ⟨rfl, Below.refl _ _⟩
    · have HZ := Lib.hid hz
      have HC := Lib.hid hc
      clear hz hc
      go_enter Try.func4, Try.ntmps4
      go_wp2_with fail
      refine (quote_any value (by omega) _).mono ?_
      rintro e w1 ⟨⟨q, rfl⟩, hb1⟩
      have B1 := Lib.hid hb1
      clear hb1
      cases hq : q.toList.isEmpty with
      | true =>
        go_wp2_with fail
        go_ret
        exact ⟨rfl, B1.out⟩
      | false =>
        go_wp2_with fail
        refine (unew_any _).mono ?_
        rintro e w2 ⟨⟨eb, mb, rfl, hmb, he⟩, hb2⟩
        have F0 := Lib.hid (show CS w w2 eb mb 0 [] from ⟨he, B1.out.trans (hb2.mono B1.out.size), Nat.le_trans B1.out.size hmb⟩)
        clear he hb2 hmb hq
        have hlen : len ≤ 60 := by omega
        go_wp2_with fail
        go_loopw [6, 7, 8, 9] (fun lv iv _ _ wr => ∃ (i : Nat) (L : Bs) (m lst : Int), iv = .int .i64 (i : Int) ∧ i ≤ len ∧ lv = .int .i64 lst ∧ (i = 0 → lst = 300) ∧ (0 < i → lst = m) ∧ ChL (vsOf z i) m L ∧ CS w wr eb mb (2000 * i) L) (fun _ iv _ _ _ => len - (intOf iv).toNat)
        case atStart => exact ⟨0, [], 0, 300, rfl, Nat.zero_le _, rfl, fun _ => rfl, fun h => absurd h (by omega), ChL.start 0, F0.out⟩
        case round =>
          clear F0
          obtain ⟨i, L, m, lst, rfl, hi, rfl, hl0, hl1, hch, hf⟩ := hrel
          have F := Lib.hid hf
          have CH := Lib.hid hch
          have L0 := Lib.hid hl0
          have L1 := Lib.hid hl1
          clear hf hch hl0 hl1
          by_cases hlt : i < len
          · have hlt' : (i : Int) < (len : Int) := by omega
            have hi0 : (0 : Int) ≤ (i : Int) := by omega
            have hlen0 : (0 : Int) < (len : Int) := by omega
            obtain ⟨b, off, rfl, hbw, hcell⟩ := HC.out (by omega)
            have c0 := (F.out.low.cell (p := ⟨b, off + 0, none⟩) hbw).trans (hcell 0 (by omega))
            have ci := (F.out.low.cell (p := ⟨b, off + i, none⟩) hbw).trans (hcell i hlt)
            have hbl : b < wr.heap.size := Nat.lt_of_lt_of_le hbw F.out.low.size
            simp only [Nat.add_zero] at c0
            obtain ⟨L', m', hu, ⟨M, rfl⟩, hch', hm1, hm2⟩ := CH.out.step (x := (z i : Int)) (f := (z 0 : Int)) (by omega) (by have := HZ.out i hlt; omega) (fun h => by rw [vsOf_nil h]) (fun h => vsOf_mem z (by
              rcases Nat.eq_zero_or_pos i with h0 | h0
              · subst h0; exact absurd rfl h
              · exact h0))
            have hx255 := HZ.out i hlt
            have hx0255 := HZ.out 0 (by omega)
            have WI := Go.IntWalk.i64_in (z i : Int) ⟨by omega, by omega⟩
            have W0 := Go.IntWalk.i64_in (z 0 : Int) ⟨by omega, by omega⟩
            have hlen00 : 0 < len := by omega
            obtain ⟨l2, hl2⟩ : ∃ l2 : Int, (if (z i : Int) < lst then (z i : Int) else lst) = l2 := ⟨_, rfl⟩
            have LL := Lib.hid (show l2 = m' by
              have hl3 : l2 = min lst (z i : Int) := by rw [← hl2]; split <;> omega
              rcases Nat.eq_zero_or_pos i with h0 | h0
              · have a1 := L0.out h0
                have a2 := hm1 (by rw [h0]; rfl)
                omega
              · have a1 := L1.out h0
                have a2 := hm2 (fun h => by have := vsOf_nil h; omega)
                omega)
            have CH' := Lib.hid (show ChL (vsOf z (i + 1)) m' (L ++ M) by rw [vsOf_succ]; exact hch')
            have hN : 2000 * i + 2000 ≤ 1000000 := by omega
            have CV := Lib.hid (fun (n : Int) (W : World) => lvar_any n W)
            have q0 := (Below.refl wr.heap.size wr).drew
            have CU := Lib.hid (show ∀ w', Below wr.heap.size wr w' → Calls Try.prog 13 #[.pointer (some ⟨eb, 0, none⟩), .agg #[.int .i64 1, .int .i64 (z i : Int), .string ⟨#[]⟩, .slice none 0 0], .agg #[.int .i64 1, .int .i64 (z 0 : Int), .string ⟨#[]⟩, .slice none 0 0]] w' fun e w'' => (∃ A n c, e = .returned (.tuple #[.slice A n c, .int .i64 0]) ∧ EnvP w'' eb mb (2000 * i + 2000) (L ++ M)) ∧ But mb w' w'' from fun w' hw => by
              refine (unify_u (F.out.below hw).env hN (varV_tp w' _ (z i : Int)) (varV_tp w' _ (z 0 : Int)) (varT_ok (by omega) (by omega)) (varT_ok (by omega) (by omega)) hu).mono ?_
              rintro e w'' ⟨⟨A, c, rfl, _, h1⟩, h2⟩
              rw [newB_ok] at h1
              exact ⟨⟨A, _, c, rfl, h1⟩, h2⟩)
            have KP := Lib.hid (show ∀ w', Below wr.heap.size wr w' → w'.cell? ⟨b, off + i, none⟩ = some (.int .u8 (z i : Int)) ∧ w'.cell? ⟨b, off, none⟩ = some (.int .u8 (z 0 : Int)) from fun w' hw => ⟨(hw.cell (p := ⟨b, off + i, none⟩) hbl).trans ci, (hw.cell (p := ⟨b, off, none⟩) hbl).trans c0⟩)
            clear hu hch' hm1 hm2 hcell
            go_wp2_with fail
            go_region_held3 (fun w' => w'.cell? ⟨b, off + i, none⟩ = some (.int .u8 (z i : Int)) ∧ w'.cell? ⟨b, off, none⟩ = some (.int .u8 (z 0 : Int)))
              (first | (with_reducible exact KP.out _ q0) | (with_reducible exact KP.out _ q5) | (with_reducible exact KP.out _ q6) | (with_reducible exact q7))
              (first
                | ((with_reducible refine (CU.out _ q6).mono ?_); rintro e w7 ⟨⟨UA, un, uc, rfl, he7⟩, hb7⟩; have F7 := ((F.out.below q6).after hb7 he7); have q7 := (show w7.cell? ⟨b, off + i, none⟩ = some (.int .u8 (z i : Int)) ∧ w7.cell? ⟨b, off, none⟩ = some (.int .u8 (z 0 : Int)) from ⟨(F7.low.cell (p := ⟨b, off + i, none⟩) hbw).trans ((F.out.low.cell (p := ⟨b, off + i, none⟩) hbw).symm.trans ci), (F7.low.cell (p := ⟨b, off, none⟩) hbw).trans ((F.out.low.cell (p := ⟨b, off, none⟩) hbw).symm.trans c0)⟩))
                | ((with_reducible refine (CV.out _ _).mono ?_); rintro e w6 ⟨rfl, h6⟩; have q6 := q5.trans (h6.mono q5.size))
                | ((with_reducible refine (CV.out _ _).mono ?_); rintro e w5 ⟨rfl, h5⟩; have q5 := q0.trans h5))
            all_goals
              have F8 := Lib.hid F7
              have ci8 := q7.1
              have c08 := q7.2
              clear F7 q7 he7 hb7 q5 q6 q0 h5 h6 ci c0
              go_wp2_with fail
              go_roundw
              case rel => exact ⟨i + 1, L ++ M, m', l2, by go_num, by omega, rfl, fun h => absurd h (by omega), fun _ => LL.out, CH'.out, F8.out⟩
              case measure => simp [intOf]; omega
          · obtain rfl : i = len := by omega
            have hlt' : ¬ (i : Int) < (i : Int) := by omega
            go_wp2_with fail
            go_loopw [10, 11] (fun iv _ wr => ∃ j : Nat, iv = .int .i64 (j : Int) ∧ j ≤ i ∧ CS w wr eb mb (2000 * i) L) (fun iv _ _ => i - (intOf iv).toNat)
            case atStart => exact ⟨0, rfl, Nat.zero_le _, F.out⟩
            case round =>
              clear F
              obtain ⟨j, rfl, hj, hf⟩ := hrel
              have F := Lib.hid hf
              clear hf
              by_cases hji : j < i
              · have hji' : (j : Int) < (i : Int) := by omega
                have HLM := Lib.hid (L1.out (by omega))
                obtain ⟨b, off, rfl, hbw, hcell⟩ := HC.out (by omega)
                have cj := (F.out.low.cell (p := ⟨b, off + j, none⟩) hbw).trans (hcell j hji)
                have hok := varT_ok (n := (z j : Int)) (by omega) (by have := HZ.out j hji; omega)
                obtain ⟨d, hd⟩ := F.out.env.ok.deep hok
                have HRS := CH.out.res (vsOf_mem z hji) hd
                have hx255 := HZ.out j hji
                have HD := Lib.hid hd
                have HR := Lib.hid HRS
                clear hd HRS hcell
                go_wp2_with fail
                refine (lvar_any (z j : Int) _).mono ?_
                rintro e w5 ⟨rfl, h5⟩
                have F5 := Lib.hid (F.out.below h5)
                have CP := presolve_any F5.out.env (varV_tp w5 _ (z j : Int)) hok HD.out
                rw [HR.out] at CP
                have CP := Lib.hid CP
                clear h5 cj
                go_wp2_with fail
                refine CP.out.mono ?_
                rintro e w6 ⟨⟨v6, rfl, ⟨RA, rc, rfl, _⟩⟩, h6⟩
                have F6 := Lib.hid (F5.out.below (belA h6 (Obj.cells #[.int .i64 1, .int .i64 m, .string ⟨#[]⟩, .slice RA 0 rc] 34)))
                have hmm : (m != lst) = false := by rw [HLM.out]; simp
                clear h6
                go_wp2_with fail
                go_roundw
                case rel => exact ⟨j + 1, by go_num, by omega, F6.out⟩
                case measure => simp [intOf]; omega
              · have hji' : ¬ (j : Int) < (i : Int) := by omega
                have hvs : (value.size : Int) ≤ 200 := by omega
                have OKA := Lib.hid (atomT_ok (s := value) (by omega))
                have F5 := Lib.hid (F.out.below (belA (Below.refl _ _) (Obj.cells #[.int .i64 3, .int .i64 0, .string value, .slice none 0 0] 34)))
                have X5 := Lib.hid (heap_alloc_new wr (Obj.cells #[.int .i64 3, .int .i64 0, .string value, .slice none 0 0] 34))
                obtain ⟨L2, hL2⟩ : ∃ L2, L ++ [(m, atomT value)] = L2 := ⟨_, rfl⟩
                have HL2 := Lib.hid hL2
                have hwl := F.out.low.size
                clear hL2
                obtain ⟨T6, hT6⟩ : ∃ T6, wr.heap.size = T6 := ⟨_, rfl⟩
                go_wp2_with fail
                go_loopw [13, 14, 15] (fun iv _ _ w9 => ∃ k : Nat, iv = .int .i64 (k : Int) ∧ k ≤ i ∧ CS w w9 eb mb (2000 * (i + k)) (if k = 0 then L else L2) ∧ w9.heap[T6]? = some (.cells #[.int .i64 3, .int .i64 0, .string value, .slice none 0 0] 34 (0, 0))) (fun iv _ _ _ => i - (intOf iv).toNat)
                case atStart => exact ⟨0, rfl, Nat.zero_le _, by simpa using F5.out, by rw [← hT6]; exact X5.out⟩
                case round =>
                  clear F F5 X5
                  obtain ⟨k, rfl, hk, hf, hbox⟩ := hrel
                  have F := Lib.hid hf
                  have X := Lib.hid hbox
                  obtain ⟨x0, x1, x2, x3⟩ := box4 hbox
                  have hgl := heap_lt hbox
                  clear hf hbox
                  by_cases hki : k < i
                  · have hki' : (k : Int) < (i : Int) := by omega
                    have hi0 : (0 : Int) ≤ (k : Int) := by omega
                    have HLM := Lib.hid (L1.out (by omega))
                    obtain ⟨b, off, rfl, hbw, hcell⟩ := HC.out (by omega)
                    have ck := (F.out.low.cell (p := ⟨b, off + k, none⟩) hbw).trans (hcell k hki)
                    have hbl : b < wr.heap.size := Nat.lt_of_lt_of_le hbw F.out.low.size
                    have hx255 := HZ.out k hki
                    have WI := Go.IntWalk.i64_in (z k : Int) ⟨by omega, by omega⟩
                    have CV := Lib.hid (fun (n : Int) (W : World) => lvar_any n W)
                    have q0 := (Below.refl wr.heap.size wr).drew
                    have hN : 2000 * (i + k) + 2000 ≤ 1000000 := by omega
                    have KP := Lib.hid (show ∀ w', Below wr.heap.size wr w' → w'.cell? ⟨b, off + k, none⟩ = some (.int .u8 (z k : Int)) ∧ w'.cell? ⟨T6, 0, none⟩ = some (.int .i64 3) ∧ w'.cell? ⟨T6, 1, none⟩ = some (.int .i64 0) ∧ w'.cell? ⟨T6, 2, none⟩ = some (.string value) ∧ w'.cell? ⟨T6, 3, none⟩ = some (.slice none 0 0) from fun w' hw => ⟨(hw.cell (p := ⟨b, off + k, none⟩) hbl).trans ck, (hw.cell (p := ⟨T6, 0, none⟩) hgl).trans x0, (hw.cell (p := ⟨T6, 1, none⟩) hgl).trans x1, (hw.cell (p := ⟨T6, 2, none⟩) hgl).trans x2, (hw.cell (p := ⟨T6, 3, none⟩) hgl).trans x3⟩)
                    have CU := Lib.hid (show ∀ w', Below wr.heap.size wr w' → Calls Try.prog 13 #[.pointer (some ⟨eb, 0, none⟩), .agg #[.int .i64 1, .int .i64 (z k : Int), .string ⟨#[]⟩, .slice none 0 0], .agg #[.int .i64 3, .int .i64 0, .string value, .slice none 0 0]] w' fun e w'' => (∃ A c, e = .returned (.tuple #[.slice A (if k = 0 then 1 else 0) c, .int .i64 0]) ∧ EnvP w'' eb mb (2000 * (i + k) + 2000) L2 ∧ (k = 0 → ∃ gn, A = some ⟨gn, 0, none⟩ ∧ gn < w''.heap.size ∧ w''.cell? ⟨gn, 0, none⟩ = some (.int .i64 lst))) ∧ But mb w' w'' from fun w' hw => by
                      have hokx := varT_ok (n := (z k : Int)) (by omega) (by omega)
                      have FW := F.out.below hw
                      by_cases hk0 : k = 0
                      · have FW2 := FW.env
                        simp only [if_pos hk0] at FW2 ⊢
                        refine (unify_u FW2 hN (varV_tp w' _ (z k : Int)) (TP.leaf w' _ 3 0 value) hokx OKA.out (uni_atom CH.out (vsOf_mem z hki) value)).mono ?_
                        rintro e w'' ⟨⟨A, c, rfl, hr, h1⟩, h2⟩
                        rw [newB_ok] at h1 hr ⊢
                        rw [HL2.out] at h1
                        obtain ⟨_, _, e1, _, _, hx⟩ := hr.open_
                        injection e1 with e1
                        subst e1
                        obtain ⟨gn, rfl, hgn, cn⟩ := hx 0 m rfl
                        exact ⟨⟨_, c, rfl, h1, fun _ => ⟨gn, rfl, hgn, by rw [HLM.out]; exact cn⟩⟩, h2⟩
                      · have FW2 := FW.env
                        simp only [if_neg hk0] at FW2 ⊢
                        have hu := uni_atom2 CH.out (vsOf_mem z hki) (s := value) (by rw [HL2.out]; exact FW2.ok)
                        rw [HL2.out] at hu
                        refine (unify_u FW2 hN (varV_tp w' _ (z k : Int)) (TP.leaf w' _ 3 0 value) hokx OKA.out hu).mono ?_
                        rintro e w'' ⟨⟨A, c, rfl, _, h1⟩, h2⟩
                        have e9 : newB L2 (.ok L2 1999) = [] := by simp [newB]
                        rw [e9] at h1 ⊢
                        exact ⟨⟨A, c, rfl, by simpa using h1, fun h => absurd h hk0⟩, h2⟩)
                    obtain ⟨nl, hnl⟩ : ∃ nl : Nat, (if k = 0 then 1 else 0) = nl := ⟨_, rfl⟩
                    have HNL := Lib.hid hnl
                    obtain ⟨LE, hLE⟩ : ∃ LE, (if k = 0 then L else L2) = LE := ⟨_, rfl⟩
                    rw [hLE] at F
                    rw [hnl] at CU
                    clear hcell hLE hnl
                    go_wp2_with fail
                    go_region_held3 (fun w' => w'.cell? ⟨b, off + k, none⟩ = some (.int .u8 (z k : Int)) ∧ w'.cell? ⟨T6, 0, none⟩ = some (.int .i64 3) ∧ w'.cell? ⟨T6, 1, none⟩ = some (.int .i64 0) ∧ w'.cell? ⟨T6, 2, none⟩ = some (.string value) ∧ w'.cell? ⟨T6, 3, none⟩ = some (.slice none 0 0))
                      (first | (with_reducible exact KP.out _ q0) | (with_reducible exact KP.out _ q5) | (with_reducible exact q7))
                      (first
                        | ((with_reducible refine (CU.out _ q5).mono ?_); rintro e w7 ⟨⟨UA, uc, rfl, he7, hlu⟩, hb7⟩; have F7 := ((F.out.below q5).after hb7 he7); have X7 := hb7.far (F.out.below q5).env.isMap.spare ((q5.block _ hgl).trans X.out) (by decide); obtain ⟨z0, z1, z2, z3⟩ := box4 X7; have q7 := (show w7.cell? ⟨b, off + k, none⟩ = some (.int .u8 (z k : Int)) ∧ w7.cell? ⟨T6, 0, none⟩ = some (.int .i64 3) ∧ w7.cell? ⟨T6, 1, none⟩ = some (.int .i64 0) ∧ w7.cell? ⟨T6, 2, none⟩ = some (.string value) ∧ w7.cell? ⟨T6, 3, none⟩ = some (.slice none 0 0) from ⟨(F7.low.cell (p := ⟨b, off + k, none⟩) hbw).trans ((F.out.low.cell (p := ⟨b, off + k, none⟩) hbw).symm.trans ck), z0, z1, z2, z3⟩))
                        | ((with_reducible refine (CV.out _ _).mono ?_); rintro e w5 ⟨rfl, h5⟩; have q5 := q0.trans h5))
                    have F8 := Lib.hid F7
                    have X8 := Lib.hid X7
                    have LU := Lib.hid hlu
                    clear F7 X7 hlu he7 hb7 q5 q7 q0 h5 ck x0 x1 x2 x3 z0 z1 z2 z3 CU CV KP
                    have FN := Lib.hid (show CS w w7 eb mb (2000 * (i + (k + 1))) (if k + 1 = 0 then L else L2) by rw [if_neg (by omega)]; exact F8.out)
                    by_cases hk0 : k = 0
                    · subst hk0
                      obtain ⟨gn, rfl, hgn, cn⟩ := LU.out rfl
                      have hnl : nl = 1 := HNL.out.symm
                      subst hnl
                      have hll : (lst != lst) = false := by simp
                      go_wp2_with fail
                      go_roundw
                      case rel => exact ⟨1, rfl, by omega, FN.out, X8.out⟩
                      case measure => simp [intOf]; omega
                    · have hk1 : ((k : Int) == 0) = false := beq_eq_false_iff_ne.mpr (by omega)
                      have hk2 : (0 : Int) < (k : Int) := by omega
                      have hnl : nl = 0 := by rw [← HNL.out, if_neg hk0]
                      subst hnl
                      clear hk0
                      go_wp2_with fail
                      go_roundw
                      case rel => exact ⟨k + 1, by go_num, by omega, FN.out, X8.out⟩
                      case measure => simp [intOf]; omega
                  · have hki' : ¬ (k : Int) < (i : Int) := by omega
                    obtain ⟨LE, hLE⟩ : ∃ LE, (if k = 0 then L else L2) = LE := ⟨_, rfl⟩
                    rw [hLE] at F
                    clear hLE
                    have FE := F.out.env
                    have CU := Lib.hid (unify_u FE (by omega) (TP.leaf wr _ 3 0 value) (TP.leaf wr _ 2 1 ⟨#[]⟩) OKA.out (intT_ok ⟨by omega, by omega⟩) (uni_atom_int _ value))
                    clear FE
                    go_wp2_with fail
                    refine CU.out.mono ?_
                    rintro e wB ⟨⟨UA, uc, rfl, _, heB⟩, hbB⟩
                    have FB := Lib.hid (F.out.after hbB heB)
                    clear heB hbB
                    simp only [resErr]
                    go_wp2_with fail
                    go_ret
                    exact ⟨rfl, FB.out.low⟩
end Go.Proofs.Ytjjkigphfijnbaa
