/- The walk through unify.Unify. -/
import Derived.Test.YtjjkigphfijnbaaUni7
import Derived.Test.YtjjkigphfijnbaaRu4
namespace Go.Proofs.Ytjjkigphfijnbaa
open Go.RowKit

theorem wpList_drop_IM {w : World} {ops : Array Oper} {rest : List Oper} {o : Oper} {a : Act} {Q : Exit → Act → World → Prop} (hg : o.guard = none) (m x : Operand) (t : TypeId)
    (hop : o.op = Op.call { callee := Callee.builtin Builtin.delete, args := #[m, x], argTypes := #[t, 3] }) {e : TypeId} (ht : Try.prog.underlying t = some (.map 3 e)) {b n : Nat} {M : Int → Option Value} (hm : a.eval m = .map (some b)) (h : IM w b n M) {i : Int}
    (hx : a.eval x = .int .i64 i) (hi : I64 i) (hK : ∀ w', IM w' b n (delI M i) → w.mapTurned w' b → wpList Try.prog ops Q rest (a.put o.dst (.tuple #[])) w') : wpList Try.prog ops Q (o :: rest) a w := by
  refine wpList_plain hg fun K' hK' => ?_
  obtain ⟨w', hrun, r1, r2⟩ := h.drop ht hi o.type
  unfold Oper.wp
  simp [execOp, hop, resolve, invoke, builtin, hm, hx, hrun, Result.andThen]
  exact hK' _ _ (hK w' r1 r2)
theorem findB_no' : ∀ {M : Bs} {i : Int}, i ∉ M.map Prod.fst → findB M i = none := by
  intro M
  induction M with
  | nil => intro i _; rfl
  | cons p M ih =>
    intro i h
    obtain ⟨k, y⟩ := p
    have hne : k ≠ i := fun e => h (by simp [e])
    simp only [findB, if_neg hne]
    exact ih fun hm => h (by simp at hm ⊢; exact .inr hm)
/-- The map while what was bound is taken out again: ds are out. -/
structure EnvD (w : World) (eb mb N : Nat) (L1 : Bs) (ds : List Int) : Prop where
  blk : w.heap[eb]? = some (.cells #[.map (some mb)] 64 (0, 0))
  map : ∃ M, IM w mb N M ∧ ∀ i, (i ∈ ds → M i = none) ∧ (i ∉ ds → (findB L1 i = none → M i = none) ∧ ∀ t, findB L1 i = some t → ∃ v, M i = some v ∧ TP w (fun _ => True) t v)
theorem EnvD.start {w : World} {eb mb N : Nat} {L1 : Bs} (h : EnvP w eb mb N L1) : EnvD w eb mb N L1 [] := by
  obtain ⟨M, hM, hL⟩ := h.map
  exact ⟨h.blk, M, hM, fun i => ⟨fun hi => absurd hi List.not_mem_nil, fun _ => hL i⟩⟩
theorem EnvD.step {w w' : World} {eb mb N : Nat} {L1 : Bs} {ds : List Int} {M : Int → Option Value} {i : Int} (hb : w.heap[eb]? = some (.cells #[.map (some mb)] 64 (0, 0))) (hM : IM w mb N M)
    (h : ∀ i, (i ∈ ds → M i = none) ∧ (i ∉ ds → (findB L1 i = none → M i = none) ∧ ∀ t, findB L1 i = some t → ∃ v, M i = some v ∧ TP w (fun _ => True) t v)) (hM' : IM w' mb N (delI M i)) (ht : w.mapTurned w' mb) : EnvD w' eb mb N L1 (ds ++ [i]) := by
  have hbut := But.turned ht
  refine ⟨hbut.cells hM.is hb, _, hM', fun j => ⟨fun hj => ?_, fun hj => ?_⟩⟩
  · by_cases hji : j = i
    · simp [delI, hji]
    · have : j ∈ ds := by simpa [hji] using hj
      simp [delI, hji, (h j).1 this]
  · have hji : j ≠ i := fun e => hj (by simp [e])
    have hjd : j ∉ ds := fun e => hj (by simp [e])
    obtain ⟨h1, h2⟩ := (h j).2 hjd
    refine ⟨fun hf => by simp [delI, hji, h1 hf], fun t hf => ?_⟩
    obtain ⟨v, h3, h4⟩ := h2 t hf
    exact ⟨v, by simp [delI, hji, h3], h4.but hbut hM.is⟩
/-- All of it out: the bindings that there were. -/
theorem EnvD.all {w : World} {eb mb N : Nat} {L M : Bs} (h : EnvD w eb mb N (L ++ M) (M.map Prod.fst)) (hN : N ≤ 1000000) (hL : EnvOk L) (hLM : EnvOk (L ++ M)) : EnvP w eb mb N L := by
  obtain ⟨F, hF, hx⟩ := h.map
  refine ⟨h.blk, hN, ⟨F, hF, fun i => ?_⟩, hL⟩
  have app : ∀ (M : Bs), i ∉ M.map Prod.fst → findB (L ++ M) i = findB L i := fun M hM => by
    clear hx hF h hLM
    induction L with
    | nil =>
      simp only [List.nil_append, findB]
      exact findB_no' hM
    | cons p L ih =>
      obtain ⟨k, y⟩ := p
      simp only [List.cons_append, findB]
      by_cases e : k = i
      · simp [e]
      · simp only [if_neg e]
        exact ih ⟨(List.nodup_cons.mp hL.nd).2, fun p hp => hL.ok p (List.mem_cons_of_mem _ hp), hL.acyc.imp fun r hr p hp => hr p (List.mem_cons_of_mem _ hp)⟩
  by_cases hi : i ∈ M.map Prod.fst
  · refine ⟨fun _ => (hx i).1 hi, fun t ht => ?_⟩
    have hnd := hLM.nd
    rw [List.map_append, List.nodup_append] at hnd
    exact absurd rfl (hnd.2.2 i (List.mem_map.mpr ⟨_, findB_mem ht, rfl⟩) i hi)
  · have := (hx i).2 hi
    rwa [app M hi] at this
/-- What Unify comes to. -/
def UnifyP (r : Res) (L : Bs) (w : World) (eb mb N : Nat) (e : Ending) (w' : World) : Prop := (match r with
  | .ok L1 _ => ∃ v M, L1 = L ++ M ∧ e = .returned (.tuple #[v, .int .i64 0]) ∧ IRow w' v (M.map Prod.fst) ∧ EnvP w' eb mb (N + 2000) L1
  | .many => e = .returned (.tuple #[.slice none 0 0, .int .i64 34]) ∧ EnvP w' eb mb (N + 2000) L
  | .unlike => e = .returned (.tuple #[.slice none 0 0, .int .i64 80]) ∧ EnvP w' eb mb (N + 2000) L) ∧ But mb w w'
/-- The loop over the stack: where it stands. -/
structure UL (r : Res) (L : Bs) (w : World) (eb mb N : Nat) (wr : World) (f : Nat) (sv bv : Value) (ps : List (T × T)) (M : Bs) (N1 : Nat) : Prop where
  row : PRow wr w.heap.size sv ps
  bnd : wr.ownsRow w.heap.size 3 1 bv M.length ((M.map Prod.fst).map (Value.int .i64))
  env : EnvP wr eb mb N1 (L ++ M)
  few : N1 + f ≤ N + 2000
  len : M.length + f ≤ 2000
  pl : ps.length + 1000 * f ≤ 2000001
  ok : ∀ p ∈ ps, p.1.ok ∧ p.2.ok
  eq : r = uniF f (L ++ M) ps.reverse
  but : But mb w wr
theorem IM.more {w : World} {b n n' : Nat} {M : Int → Option Value} (h : IM w b n M) (hn : n ≤ n') : IM w b n' M := by
  obtain ⟨D, h, hM⟩ := h
  exact ⟨D, h.mono hn, hM⟩
theorem EnvP.more {w : World} {eb mb N N' : Nat} {L : Bs} (h : EnvP w eb mb N L) (hN : N ≤ N') (hN' : N' ≤ 1000000) : EnvP w eb mb N' L := by
  obtain ⟨M, hM, hL⟩ := h.map
  exact ⟨h.blk, hN', ⟨M, hM.more hN, hL⟩, h.ok⟩
theorem own_but {w w' : World} {B b : Nat} {e : TypeId} {n : Nat} {v : Value} {xs : List Value} {k : Nat} (h : w.ownsRow B e k v n xs) (hb : But b w w') (hm : IsMapAt w b) : w'.ownsRow B e k v n xs :=
  own_keep h fun g hg => by
    obtain ⟨c, fz, hh⟩ := Go.Lib.ownsRow_kind h g hg
    exact (hb.cells hm hh).trans hh.symm
theorem grown_far {w1 w2 : World} {B k : Nat} {e : TypeId} {n : Nat} {v : Value} {xs : List Value} (hx : w1.ownsRow B e k v n xs) (hg : w1.grownBy w2 v.ownBlock) {b : Nat} {o : Obj} (hb : w1.heap[b]? = some o) (hne : ∀ cs f, o ≠ .cells cs e f) : w2.heap[b]? = some o := by
  refine (hg.block b (heap_lt hb) fun h => ?_).trans hb
  obtain ⟨c, fz, h2⟩ := Go.Lib.ownsRow_kind hx b h.symm
  rw [hb] at h2
  injection h2 with h2
  exact hne _ _ h2
theorem cells_ne {cs cs' : Array Value} {t t' : TypeId} {m m' : Nat × Nat} (h : t ≠ t') : Obj.cells cs t m ≠ Obj.cells cs' t' m' := fun e => by injection e with _ e; exact h e
theorem EnvP.grown {w1 w2 : World} {B k : Nat} {e : TypeId} {n : Nat} {v : Value} {xs : List Value} (hx : w1.ownsRow B e k v n xs) (hg : w1.grownBy w2 v.ownBlock) (h1 : 64 ≠ e) (h2 : 34 ≠ e) {eb mb N : Nat} {L : Bs} (h : EnvP w1 eb mb N L) : EnvP w2 eb mb N L := by
  obtain ⟨M, hM, hL⟩ := h.map
  obtain ⟨es, cl, hmm⟩ := hM.is
  refine ⟨grown_far hx hg h.blk fun _ _ => cells_ne h1, h.few, ⟨M, hM.keep ((grown_far hx hg hmm (fun _ _ h => by cases h)).trans hmm.symm), fun i => ⟨(hL i).1, fun t ht => ?_⟩⟩, h.ok⟩
  obtain ⟨u, h3, h4⟩ := (hL i).2 t ht
  exact ⟨u, h3, h4.keep fun b cs f hS hh => ⟨grown_far hx hg hh fun _ _ => cells_ne h2, hS⟩⟩
theorem own_far {w1 w2 : World} {B k : Nat} {e : TypeId} {n : Nat} {v : Value} {xs : List Value} (hx : w1.ownsRow B e k v n xs) (hg : w1.grownBy w2 v.ownBlock) {B' k' : Nat} {e' : TypeId} {n' : Nat} {v' : Value} {xs' : List Value} (h : w1.ownsRow B' e' k' v' n' xs') (hne : e' ≠ e) : w2.ownsRow B' e' k' v' n' xs' :=
  own_keep h fun g hg' => by
    obtain ⟨c, fz, hh⟩ := Go.Lib.ownsRow_kind h g hg'
    exact (grown_far hx hg hh fun _ _ => cells_ne hne).trans hh.symm
theorem PRow.grownI {w1 w2 : World} {B k : Nat} {e : TypeId} {n : Nat} {v : Value} {xs : List Value} (hx : w1.ownsRow B e k v n xs) (hg : w1.grownBy w2 v.ownBlock) (h1 : 69 ≠ e) (h2 : 34 ≠ e) {B' : Nat} {v' : Value} {ps : List (T × T)} (h : PRow w1 B' v' ps) : PRow w2 B' v' ps := by
  obtain ⟨ys, hy, hp⟩ := h
  refine ⟨ys, own_far hx hg hy h1, fun q p hq => ?_⟩
  obtain ⟨_, _, _, _, _, _, _, _, _, _, _, _, hc⟩ := hp q p hq
  exact ⟨_, _, _, _, _, _, _, _, _, _, _, _, hc.keep (fun _ _ => rfl) fun ht => ht.keep fun b cs f hS hh => ⟨grown_far hx hg hh fun _ _ => cells_ne h2, hS⟩⟩
theorem PRow.grownP {w1 w2 : World} {B : Nat} {n : Nat} {v : Value} {xs : List Value} (hx : w1.ownsRow B 69 8 v n xs) (hg : w1.grownBy w2 v.ownBlock) {B' : Nat} {v' : Value} {ps : List (T × T)} (h : PRow w1 B' v' ps) (hne : ∀ g, v'.ownBlock = some g → v.ownBlock ≠ some g) : PRow w2 B' v' ps := by
  obtain ⟨ys, hy, hp⟩ := h
  refine ⟨ys, own_keep hy fun g hg' => hg.block g (hy.lt g hg').2 fun e => hne g hg' e.symm, fun q p hq => ?_⟩
  obtain ⟨_, _, _, _, _, _, _, _, _, _, _, _, hc⟩ := hp q p hq
  exact ⟨_, _, _, _, _, _, _, _, _, _, _, _, hc.keep (fun _ _ => rfl) fun ht => ht.keep fun b cs f hS hh => ⟨grown_far hx hg hh fun _ _ => cells_ne (by decide), hS⟩⟩
theorem idx_start (m : Nat) : (∃ i : Nat, Value.int .i64 ((m : Int) - 1) = .int .i64 (i : Int) ∧ m = i + 1) ∨ (Value.int .i64 ((m : Int) - 1) = .int .i64 (-1) ∧ m = 0) := by
  cases m with
  | zero => exact .inr ⟨rfl, rfl⟩
  | succ m => exact .inl ⟨m, by congr 1; omega, rfl⟩
theorem sub_step {i m : Nat} (h : i < m) (n : Nat) : n + (m - (i + 1)) + 1 = n + (m - i) := by omega
theorem pairsFrom_length {i m : Nat} (g h : Nat → T) : (pairsFrom i m g h).length = m - i := by
  unfold pairsFrom
  rw [List.length_drop, pairsOf_length]
theorem But.grown {b : Nat} {w w1 w2 : World} {row : Option Nat} (h : But b w w1) (hg : w1.grownBy w2 row) (hr : ∀ k, row = some k → w.heap.size ≤ k) : But b w w2 :=
  ⟨hg.os.trans h.os, hg.tape.trans h.tape, hg.output.trans h.output, Nat.le_trans h.size hg.size, fun i hi hb => (hg.block i (Nat.lt_of_lt_of_le hi h.size) fun e => by have := hr i e.symm; omega).trans (h.block i hi hb)⟩
set_option maxRecDepth 100000 in
set_option maxHeartbeats 8000000 in
theorem unify_any {w : World} {eb mb N : Nat} {L : Bs} (h : EnvP w eb mb N L) (hN : N + 2000 ≤ 1000000) {ta tb : T} {va vb : Value} (ha : TP w (fun _ => True) ta va) (hb : TP w (fun _ => True) tb vb) (oa : ta.ok) (ob : tb.ok) :
    Calls Try.prog 13 #[.pointer (some ⟨eb, 0, none⟩), va, vb] w fun e w' => UnifyP (uniF 2000 L [(ta, tb)]) L w eb mb N e w' := by
  obtain ⟨k0, k1, k2, A0, m0, c0, rfl⟩ := ha.agg
  obtain ⟨j0, j1, j2, B0, n0, d0, rfl⟩ := hb.agg
  have BW := Lib.hid ((belA (belA (belA (Below.refl w.heap.size w) (Obj.cells #[.int .i64 k0, .int .i64 k1, .string k2, .slice A0 m0 c0] 34)) (Obj.cells #[.int .i64 j0, .int .i64 j1, .string j2, .slice B0 n0 d0] 34)) (Obj.cells #[.int .i64 k0, .int .i64 k1, .string k2, .slice A0 m0 c0, .int .i64 j0, .int .i64 j1, .string j2, .slice B0 n0 d0] 69)))
  have LOK0 := Lib.hid h.ok
  have H := Lib.hid h
  have HA := Lib.hid ha
  have HB := Lib.hid hb
  obtain ⟨hle, hlm⟩ := h.lt
  clear h ha hb
  go_enter Try.func13, Try.ntmps13
  go_wp2_with fail
  go_loopw [8, 9, 10] (fun sv bv mv wr => ∃ (k f : Nat) (ps : List (T × T)) (M : Bs) (N1 : Nat), mv = .int .i64 (k : Int) ∧ k + f = 2001 ∧ UL (uniF 2000 L [(ta, tb)]) L w eb mb N wr f sv bv ps M N1) (fun _ _ mv _ => 2001 - (intOf mv).toNat)
  case atStart =>
    refine ⟨1, 2000, [(ta, tb)], [], N, rfl, rfl, ⟨[.int .i64 k0, .int .i64 k1, .string k2, .slice A0 m0 c0, .int .i64 j0, .int .i64 j1, .string j2, .slice B0 n0 d0], ⟨rfl, .inr ⟨_, 1, #[.int .i64 k0, .int .i64 k1, .string k2, .slice A0 m0 c0, .int .i64 j0, .int .i64 j1, .string j2, .slice B0 n0 d0], rfl, by omega, ?_, Nat.le_refl _, by unfold maxLen; omega, rfl, rfl⟩⟩, fun q p hq => ?_⟩, World.ownsRow_nil _ _ _ _, by simpa using H.out.below BW.out, by omega, by simp, by simp, fun p hp => by simp at hp; subst hp; exact ⟨oa, ob⟩, by simp, But.of BW.out⟩
    · exact (congrArg _ (by simp)).trans (heap_alloc_new _ _)
    · have hq0 : q = 0 := by
        rcases Nat.eq_zero_or_pos q with h | h
        · exact h
        · rw [List.getElem?_eq_none (by simp; omega)] at hq; cases hq
      subst hq0
      simp at hq
      subst hq
      exact ⟨k0, k1, k2, A0, m0, c0, j0, j1, j2, B0, n0, d0, rfl, rfl, rfl, rfl, rfl, rfl, rfl, rfl, HA.out.below BW.out, HB.out.below BW.out⟩
  case round =>
    obtain ⟨k, f, ps, M, N1, rfl, hk, hl⟩ := hrel
    obtain ⟨BA, bc, rfl, _, _, _, _⟩ := own_open hl.bnd
    have hrow := hl.row
    have hN1 : N1 ≤ 1000000 := hl.env.few
    have hN2 := hl.few
    have LOK := Lib.hid hl.env.ok
    have hlen := hl.len
    have hpl := hl.pl
    have U := Lib.hid hl
    clear hl BW
    rcases List.eq_nil_or_concat ps with hps | ⟨ps', pp, hps⟩
    · subst hps
      obtain ⟨xs, hx, _⟩ := hrow
      obtain ⟨PA, pc, rfl, _, _, _, _⟩ := own_open hx
      have HR := Lib.hid (show uniF 2000 L [(ta, tb)] = .ok (L ++ M) f by rw [U.out.eq]; exact uniF_nil _ _)
      clear hx
      go_wp2_with fail
      go_ret2
      rw [HR.out]
      refine ⟨⟨_, M, rfl, rfl, ?_, U.out.env.more (by omega) hN⟩, U.out.but⟩
      unfold IRow
      rw [List.length_map]
      exact ownsRow_more U.out.bnd (Nat.zero_le _)
    · rw [List.concat_eq_append] at hps
      subst hps
      obtain ⟨PA, pc, rfl, hpc⟩ : ∃ PA pc, _ = Value.slice PA (ps'.length + 1) pc ∧ ps'.length + 1 ≤ pc := by
        obtain ⟨xs, hx, _⟩ := hrow
        obtain ⟨PA, pc, e, h1, _⟩ := own_open hx
        rw [List.length_append] at e h1
        exact ⟨PA, pc, e, h1⟩
      obtain ⟨g, u0, u1, u2, U0, um, uc, v0, v1, v2, V0, vm, vc, rfl, hg, d0', d1, d2, d3, d4, d5, d6, d7, hta, htb⟩ := hrow.get (q := ps'.length) (p := pp) (by simp)
      have ROW := Lib.hid hrow
      have POP := Lib.hid (PRow.pop hrow)
      have TA := Lib.hid hta
      have TB := Lib.hid htb
      have OKP := Lib.hid (U.out.ok pp (by simp))
      have OKS := Lib.hid (show ∀ q ∈ ps', q.1.ok ∧ q.2.ok from fun q hq => U.out.ok q (by simp [hq]))
      have EQ := Lib.hid (show uniF 2000 L [(ta, tb)] = uniF f (L ++ M) (pp :: ps'.reverse) by rw [U.out.eq]; simp)
      clear hrow hta htb
      have hpl2 : ps'.length ≤ 2000000 := by simp at hpl; omega
      have hpos : (0 : Int) < (ps'.length : Int) + 1 := by omega
      have hsub : (ps'.length : Int) + 1 - 1 = (ps'.length : Int) := by omega
      cases f with
      | zero =>
        obtain rfl : k = 2001 := by omega
        have FINI := Lib.hid (show ∀ w', EnvP w' eb mb (N + 2000) L → But mb w w' → UnifyP (uniF 2000 L [(ta, tb)]) L w eb mb N (.returned (.tuple #[.slice none 0 0, .int .i64 34])) w' from fun w' h1 h2 => by rw [EQ.out]; exact ⟨⟨rfl, h1⟩, h2⟩)
        have ED := Lib.hid (U.out.env.below (belA (Below.refl _ _) (Obj.cells #[.int .i64 u0, .int .i64 u1, .string u2, .slice U0 um uc, .int .i64 v0, .int .i64 v1, .string v2, .slice V0 vm vc] 69)))
        have BN := Lib.hid (own_below U.out.bnd (belA (Below.refl _ _) (Obj.cells #[.int .i64 u0, .int .i64 u1, .string u2, .slice U0 um uc, .int .i64 v0, .int .i64 v1, .string v2, .slice V0 vm vc] 69)))
        have BT := Lib.hid (U.out.but.trans (But.of (belA (Below.refl _ _) (Obj.cells #[.int .i64 u0, .int .i64 u1, .string u2, .slice U0 um uc, .int .i64 v0, .int .i64 v1, .string v2, .slice V0 vm vc] 69))))
        go_wp2_with fail
        go_loopw [51] (fun iv wr => ∃ i : Nat, iv = .int .i64 (i : Int) ∧ i ≤ M.length ∧ EnvD wr eb mb N1 (L ++ M) ((M.map Prod.fst).take i) ∧ wr.ownsRow w.heap.size 3 1 (.slice BA M.length bc) M.length ((M.map Prod.fst).map (Value.int .i64)) ∧ But mb w wr) (fun iv _ => M.length - (intOf iv).toNat)
        case atStart => exact ⟨0, rfl, Nat.zero_le _, by simpa using EnvD.start ED.out, BN.out, BT.out⟩
        case round =>
          clear ED BN BT
          obtain ⟨i, rfl, hi, hed, hbn, hbt⟩ := hrel
          have BN := Lib.hid hbn
          have BT := Lib.hid hbt
          have HD := Lib.hid hed
          obtain ⟨hblk, F, hF, hx⟩ := hed
          have hes := heap_lt hblk
          have e4 := cell_of_row _ eb 0 _ _ _ hblk
          have HBLK := Lib.hid hblk
          have HF := Lib.hid hF
          have HX := Lib.hid hx
          obtain ⟨A9, c9, e9, _, _, hcl⟩ := (show IRow wr (.slice BA M.length bc) (M.map Prod.fst) from by unfold IRow; rw [List.length_map]; exact ownsRow_more hbn (Nat.zero_le _)).open_
          clear hbn hbt hblk hF hx
          by_cases him : i < M.length
          · have him' : (i : Int) < (M.length : Int) := by omega
            obtain ⟨y, hy⟩ : ∃ y, (M.map Prod.fst)[i]? = some y := ⟨(M.map Prod.fst)[i]'(by simpa using him), List.getElem?_eq_getElem _⟩
            obtain ⟨g9, hA9, hg9, hc9⟩ := hcl i y hy
            injection e9 with e9 h91 h92
            clear h91 h92
            rw [← e9] at hA9
            subst hA9
            have hy0 : 0 ≤ y ∧ y < 1000 := by
              obtain ⟨pp, hpp, rfl⟩ := List.mem_map.mp (List.mem_of_getElem? hy)
              have := LOK.out.ok pp (List.mem_append_right _ hpp)
              exact ⟨this.1, this.2.1⟩
            have HY := Lib.hid hy
            clear e9 hy hcl HD
            go_wp2_with (at_delete; go_must (refine wpList_drop_IM rfl _ _ _ rfl Try.underlying62 rfl HF.out rfl ⟨by omega, by omega⟩ ?_))
            intro w9 hM9 ht9
            have D9 := Lib.hid (EnvD.step HBLK.out HF.out HX.out hM9 ht9)
            have T9 := Lib.hid (BT.out.trans (But.turned ht9))
            have N9 := Lib.hid (own_but BN.out (But.turned ht9) HF.out.is)
            clear hM9 ht9
            go_wp2_with fail
            go_roundw
            case rel => exact ⟨i + 1, by go_num, him, by rw [List.take_add_one, HY.out]; exact D9.out, N9.out, T9.out⟩
            case measure => simp [intOf]; omega
          · obtain rfl : i = M.length := by omega
            have EF := Lib.hid (EnvD.all (L := L) (M := M) (by have h9 := HD.out; rw [List.take_of_length_le (by simp)] at h9; exact h9) hN1 LOK0.out LOK.out)
            clear hcl e9 HD
            go_wp2_with fail
            go_ret2
            exact FINI.out _ (EF.out.more (by omega) hN) BT.out
      | succ f =>
        have hkk : (k : Int) ≤ 2000 := by omega
        have CO := Lib.hid (uone_any (U.out.env.below (belA (Below.refl _ _) (Obj.cells #[.int .i64 u0, .int .i64 u1, .string u2, .slice U0 um uc, .int .i64 v0, .int .i64 v1, .string v2, .slice V0 vm vc] 69))) (by omega) (TA.out.below (belA (Below.refl _ _) (Obj.cells #[.int .i64 u0, .int .i64 u1, .string u2, .slice U0 um uc, .int .i64 v0, .int .i64 v1, .string v2, .slice V0 vm vc] 69))) (TB.out.below (belA (Below.refl _ _) (Obj.cells #[.int .i64 u0, .int .i64 u1, .string u2, .slice U0 um uc, .int .i64 v0, .int .i64 v1, .string v2, .slice V0 vm vc] 69))) OKP.out.1 OKP.out.2)
        have BN0 := Lib.hid (own_below U.out.bnd (belA (Below.refl _ _) (Obj.cells #[.int .i64 u0, .int .i64 u1, .string u2, .slice U0 um uc, .int .i64 v0, .int .i64 v1, .string v2, .slice V0 vm vc] 69)))
        have BT0 := Lib.hid (U.out.but.trans (But.of (belA (Below.refl _ _) (Obj.cells #[.int .i64 u0, .int .i64 u1, .string u2, .slice U0 um uc, .int .i64 v0, .int .i64 v1, .string v2, .slice V0 vm vc] 69))))
        have IS0 := Lib.hid (U.out.env.below (belA (Below.refl _ _) (Obj.cells #[.int .i64 u0, .int .i64 u1, .string u2, .slice U0 um uc, .int .i64 v0, .int .i64 v1, .string v2, .slice V0 vm vc] 69))).is
        cases hs : stepU (L ++ M) (walkN (L ++ M) pp.1) (walkN (L ++ M) pp.2) with
        | fail =>
          have HS := Lib.hid hs
          have FINI := Lib.hid (show ∀ w', EnvP w' eb mb (N + 2000) L → But mb w w' → UnifyP (uniF 2000 L [(ta, tb)]) L w eb mb N (.returned (.tuple #[.slice none 0 0, .int .i64 80])) w' from fun w' h1 h2 => by rw [EQ.out]; simp only [uniF, hs]; exact ⟨⟨rfl, h1⟩, h2⟩)
          clear hs
          go_wp2_with fail
          refine CO.out.mono ?_
          rintro e w5 ho
          unfold OneP at ho
          rw [HS.out] at ho
          obtain ⟨rfl, h1, h2⟩ := ho
          have ED := Lib.hid h1
          have BN := Lib.hid (own_but BN0.out h2 IS0.out)
          have BT := Lib.hid (BT0.out.trans h2)
          clear h1 h2
          go_wp2_with fail
          go_loopw [51] (fun iv wr => ∃ i : Nat, iv = .int .i64 (i : Int) ∧ i ≤ M.length ∧ EnvD wr eb mb N1 (L ++ M) ((M.map Prod.fst).take i) ∧ wr.ownsRow w.heap.size 3 1 (.slice BA M.length bc) M.length ((M.map Prod.fst).map (Value.int .i64)) ∧ But mb w wr) (fun iv _ => M.length - (intOf iv).toNat)
          case atStart => exact ⟨0, rfl, Nat.zero_le _, by simpa using EnvD.start ED.out, BN.out, BT.out⟩
          case round =>
            clear ED BN BT
            obtain ⟨i, rfl, hi, hed, hbn, hbt⟩ := hrel
            have BN := Lib.hid hbn
            have BT := Lib.hid hbt
            have HD := Lib.hid hed
            obtain ⟨hblk, F, hF, hx⟩ := hed
            have hes := heap_lt hblk
            have e4 := cell_of_row _ eb 0 _ _ _ hblk
            have HBLK := Lib.hid hblk
            have HF := Lib.hid hF
            have HX := Lib.hid hx
            obtain ⟨A9, c9, e9, _, _, hcl⟩ := (show IRow wr (.slice BA M.length bc) (M.map Prod.fst) from by unfold IRow; rw [List.length_map]; exact ownsRow_more hbn (Nat.zero_le _)).open_
            clear hbn hbt hblk hF hx
            by_cases him : i < M.length
            · have him' : (i : Int) < (M.length : Int) := by omega
              obtain ⟨y, hy⟩ : ∃ y, (M.map Prod.fst)[i]? = some y := ⟨(M.map Prod.fst)[i]'(by simpa using him), List.getElem?_eq_getElem _⟩
              obtain ⟨g9, hA9, hg9, hc9⟩ := hcl i y hy
              injection e9 with e9 h91 h92
              clear h91 h92
              rw [← e9] at hA9
              subst hA9
              have hy0 : 0 ≤ y ∧ y < 1000 := by
                obtain ⟨pp, hpp, rfl⟩ := List.mem_map.mp (List.mem_of_getElem? hy)
                have := LOK.out.ok pp (List.mem_append_right _ hpp)
                exact ⟨this.1, this.2.1⟩
              have HY := Lib.hid hy
              clear e9 hy hcl HD
              go_wp2_with (at_delete; go_must (refine wpList_drop_IM rfl _ _ _ rfl Try.underlying62 rfl HF.out rfl ⟨by omega, by omega⟩ ?_))
              intro w9 hM9 ht9
              have D9 := Lib.hid (EnvD.step HBLK.out HF.out HX.out hM9 ht9)
              have T9 := Lib.hid (BT.out.trans (But.turned ht9))
              have N9 := Lib.hid (own_but BN.out (But.turned ht9) HF.out.is)
              clear hM9 ht9
              go_wp2_with fail
              go_roundw
              case rel => exact ⟨i + 1, by go_num, him, by rw [List.take_add_one, HY.out]; exact D9.out, N9.out, T9.out⟩
              case measure => simp [intOf]; omega
            · obtain rfl : i = M.length := by omega
              have EF := Lib.hid (EnvD.all (L := L) (M := M) (by have h9 := HD.out; rw [List.take_of_length_le (by simp)] at h9; exact h9) hN1 LOK0.out LOK.out)
              clear hcl e9 HD
              go_wp2_with fail
              go_ret2
              exact FINI.out _ (EF.out.more (by omega) hN) BT.out
        | bind n t =>
          have HS := Lib.hid hs
          obtain ⟨_, hn0, hn1, _, _⟩ := stepU_bind (LOK.out.walk_ok OKP.out.1) (LOK.out.walk_ok OKP.out.2) (LOK.out.walk_done _) (LOK.out.walk_done _) hs
          have HEQ := Lib.hid (show uniF 2000 L [(ta, tb)] = uniF f (L ++ (M ++ [(n, t)])) (ps' ++ (pairsOf 0 (fun _ => T.nil) (fun _ => T.nil)).reverse).reverse by rw [EQ.out]; simp only [uniF, hs]; rw [List.append_assoc, pairsOf_zero]; simp)
          have HOK := Lib.hid (show ∀ q ∈ ps' ++ (pairsOf 0 (fun _ => T.nil) (fun _ => T.nil)).reverse, q.1.ok ∧ q.2.ok from fun q hq => by
            rw [pairsOf_zero] at hq
            exact OKS.out q (by simpa using hq))
          have HLEN := Lib.hid (show (M ++ [(n, t)]).length + f ≤ 2000 by rw [List.length_append]; simp; omega)
          have HPL := Lib.hid (show (ps' ++ (pairsOf 0 (fun _ => T.nil) (fun _ => T.nil)).reverse).length + 1000 * f ≤ 2000001 by rw [pairsOf_zero]; simp at hpl ⊢; omega)
          have hml : M.length ≤ 2000 := by omega
          have hswr := U.out.but.size
          obtain ⟨iti, ii1, ii2, ii3, ii4⟩ := elInt8.hi
          clear hs
          go_wp2_with fail
          refine CO.out.mono ?_
          rintro e w5 ho
          unfold OneP at ho
          rw [HS.out] at ho
          obtain ⟨rfl, h2, h3⟩ := ho
          have WB := (belA (Below.refl wr.heap.size wr) (Obj.cells #[.int .i64 u0, .int .i64 u1, .string u2, .slice U0 um uc, .int .i64 v0, .int .i64 v1, .string v2, .slice V0 vm vc] 69))
          have SR := Lib.hid (((POP.out.below WB)).but h3 IS0.out)
          have EV := Lib.hid h2
          have BD := Lib.hid (own_but BN0.out h3 IS0.out)
          have BT := Lib.hid (BT0.out.trans h3)
          have hsw5 : w.heap.size ≤ w5.heap.size := BT.out.size
          clear h2 h3 WB
          go_wp2_with (at_builtin; go_must (refine wpList_append_lies _ rfl _ _ _ rfl w.heap.size 3 iti (.int .i64 0) 1 8 Try.underlying28 ii1 ii2 ii3 ii4 rfl (by omega) _ M.length _ rfl (own_below BD.out (belA (Below.refl _ _) _)) ⟨w5.heap.size, 0, none⟩ 1 1 [.int .i64 n] rfl rfl (World.news_of_block (heap_alloc_new _ _)) (by intro u hu; simp at hu; subst hu; rfl) (by omega) (by unfold maxLen; omega) (by omega) (by simp; omega) _ rfl ?_))
          intro g6 cap6 w6 hown6 hg6 _ _
          have WB1 := belA (Below.refl w5.heap.size w5) (Obj.cells #[.int .i64 n] 3)
          have hxw := own_below BD.out WB1
          have S6 := Lib.hid (PRow.grownI hxw hg6 (by decide) (by decide) (SR.out.below WB1))
          have E6 := Lib.hid (show EnvP w6 eb mb (N1 + 1) (L ++ (M ++ [(n, t)])) from by
            rw [← List.append_assoc]
            exact EnvP.grown hxw hg6 (by decide) (by decide) (EV.out.below WB1))
          have B6 := Lib.hid (show w6.ownsRow w.heap.size 3 1 (.slice (some ⟨g6, 0, none⟩) (M.length + 1) cap6) (M ++ [(n, t)]).length (((M ++ [(n, t)]).map Prod.fst).map (Value.int .i64)) from by
            rw [List.length_append]
            simpa using hown6)
          have T6 := Lib.hid (But.grown (BT.out.trans (But.of WB1)) hg6 fun k hk => (hxw.lt k hk).1)
          clear hown6 hg6 WB1 hxw
          go_wp2_with fail
          go_loopw [8, 17] (fun sv iv wr => ∃ (j : Nat) (SA : Option Addr) (sc : Nat), ((∃ i : Nat, iv = .int .i64 (i : Int) ∧ j = i + 1) ∨ (iv = .int .i64 (-1) ∧ j = 0)) ∧ j ≤ 0 ∧ sv = .slice SA (ps'.length + (0 - j)) sc ∧ PRow wr w.heap.size sv (ps' ++ (pairsFrom j 0 (fun _ => T.nil) (fun _ => T.nil)).reverse) ∧ PRow wr w.heap.size (.slice none 0 0) (pairsOf 0 (fun _ => T.nil) (fun _ => T.nil)) ∧ (∀ q, Value.ownBlock (.slice none 0 0) = some q → sv.ownBlock ≠ some q) ∧
              EnvP wr eb mb (N1 + 1) (L ++ (M ++ [(n, t)])) ∧ wr.ownsRow w.heap.size 3 1 (.slice (some ⟨g6, 0, none⟩) (M.length + 1) cap6) ((M ++ [(n, t)])).length ((((M ++ [(n, t)])).map Prod.fst).map (Value.int .i64)) ∧ But mb w wr) (fun _ iv _ => (intOf iv + 1).toNat)
          case atStart => exact ⟨0, some ⟨g, 0, none⟩, pc, .inr ⟨rfl, rfl⟩, Nat.le_refl _, by rw [Nat.sub_self, Nat.add_zero], by rw [pairsFrom_end]; simpa using S6.out, PRow.nil _ _, fun q hq => by simp [Value.ownBlock] at hq, E6.out, B6.out, T6.out⟩
          case round =>
            clear S6 E6 B6 T6 SR EV BD BT
            obtain ⟨j, SA, sc, hj, hjm, rfl, hsr, hmr, hne, hev, hbd, hbt⟩ := hrel
            rcases hj with ⟨i, rfl, rfl⟩ | ⟨rfl, rfl⟩
            · exact absurd hjm (by omega)
            · have F1 := Lib.hid (show UL (uniF 2000 L [(ta, tb)]) L w eb mb N _ f _ (.slice (some ⟨g6, 0, none⟩) (M.length + 1) cap6) (ps' ++ (pairsOf 0 (fun _ => T.nil) (fun _ => T.nil)).reverse) ((M ++ [(n, t)])) (N1 + 1) from ⟨by rw [← pairsFrom_zero]; exact hsr, hbd, hev, by omega, HLEN.out, HPL.out, HOK.out, HEQ.out, hbt⟩)
              clear hsr hmr hne hev hbd hbt
              go_wp2_with fail
              go_roundw
              case rel => exact ⟨k + 1, f, _, (M ++ [(n, t)]), (N1 + 1), by go_num, by omega, F1.out⟩
              case measure => simp [intOf]; omega
        | args m gg hh =>
          have HS := Lib.hid hs
          obtain ⟨hm, hgh⟩ := stepU_args (LOK.out.walk_ok OKP.out.1) (LOK.out.walk_ok OKP.out.2) hs
          have HEQ := Lib.hid (show uniF 2000 L [(ta, tb)] = uniF f (L ++ M) (ps' ++ (pairsOf m gg hh).reverse).reverse by rw [EQ.out]; simp only [uniF, hs]; rw [List.reverse_append, List.reverse_reverse])
          have HOK := Lib.hid (show ∀ q ∈ ps' ++ (pairsOf m gg hh).reverse, q.1.ok ∧ q.2.ok from fun q hq => by
            rcases List.mem_append.mp hq with hq | hq
            · exact OKS.out q hq
            · exact pairsOf_ok hgh q (List.mem_reverse.mp hq))
          have HLEN := Lib.hid (show M.length + f ≤ 2000 by omega)
          have HPL := Lib.hid (show (ps' ++ (pairsOf m gg hh).reverse).length + 1000 * f ≤ 2000001 by rw [List.length_append, List.length_reverse, pairsOf_length]; simp at hpl; omega)
          clear hs hgh
          go_wp2_with fail
          refine CO.out.mono ?_
          rintro e w5 ho
          unfold OneP at ho
          rw [HS.out] at ho
          obtain ⟨mv, rfl, h1, h2, h3⟩ := ho
          obtain ⟨ys, hys, hyp⟩ := h1
          rw [pairsOf_length] at hys
          obtain ⟨MA, mc, rfl, _, _, _, _⟩ := own_open hys
          have WB := (belA (Below.refl wr.heap.size wr) (Obj.cells #[.int .i64 u0, .int .i64 u1, .string u2, .slice U0 um uc, .int .i64 v0, .int .i64 v1, .string v2, .slice V0 vm vc] 69))
          have SR := Lib.hid (((POP.out.below WB)).but h3 IS0.out)
          have MR := Lib.hid (show PRow w5 w.heap.size (.slice MA m mc) (pairsOf m gg hh) from PRow.base ⟨ys, by rw [pairsOf_length]; exact hys, hyp⟩ (Nat.le_trans U.out.but.size (by simp)))
          have NE := Lib.hid (show ∀ q, Value.ownBlock (.slice MA m mc) = some q → (Value.slice (some ⟨g, 0, none⟩) ps'.length pc).ownBlock ≠ some q from fun q hq e => by
            have h4 := (hys.lt q hq).1
            have h5 : g = q := by simpa [Value.ownBlock] using e
            simp at h4
            omega)
          have EV := Lib.hid h2
          have BD := Lib.hid (own_but BN0.out h3 IS0.out)
          have BT := Lib.hid (BT0.out.trans h3)
          clear hys hyp h2 h3 WB
          go_wp2_with fail
          go_loopw [8, 17] (fun sv iv wr => ∃ (j : Nat) (SA : Option Addr) (sc : Nat), ((∃ i : Nat, iv = .int .i64 (i : Int) ∧ j = i + 1) ∨ (iv = .int .i64 (-1) ∧ j = 0)) ∧ j ≤ m ∧ sv = .slice SA (ps'.length + (m - j)) sc ∧ PRow wr w.heap.size sv (ps' ++ (pairsFrom j m gg hh).reverse) ∧ PRow wr w.heap.size (.slice MA m mc) (pairsOf m gg hh) ∧ (∀ q, Value.ownBlock (.slice MA m mc) = some q → sv.ownBlock ≠ some q) ∧
              EnvP wr eb mb N1 (L ++ M) ∧ wr.ownsRow w.heap.size 3 1 (.slice BA M.length bc) (M).length (((M).map Prod.fst).map (Value.int .i64)) ∧ But mb w wr) (fun _ iv _ => (intOf iv + 1).toNat)
          case atStart => exact ⟨m, some ⟨g, 0, none⟩, pc, idx_start m, Nat.le_refl _, by rw [Nat.sub_self, Nat.add_zero], by rw [pairsFrom_end]; simpa using SR.out, MR.out, NE.out, EV.out, BD.out, BT.out⟩
          case round =>
            clear SR MR NE EV BD BT
            obtain ⟨j, SA, sc, hj, hjm, rfl, hsr, hmr, hne, hev, hbd, hbt⟩ := hrel
            rcases hj with ⟨i, rfl, rfl⟩ | ⟨rfl, rfl⟩
            · obtain ⟨xs, hx, hp⟩ := hsr
              rw [List.length_append, List.length_reverse, pairsFrom_length] at hx
              have hlm : ps'.length + (m - (i + 1)) ≤ 2001000 := by omega
              have hmi : i < m := by omega
              obtain ⟨gm, a0, a1, a2, aA, am, ac, b0, b1, b2, bA, bm, bc', hgA, hgm, e0, e1, e2, e3, e4, e5, e6, e7, hta1, htb1⟩ := hmr.get (q := i) (p := (gg i, hh i)) (by simp [pairsOf, hmi])
              subst hgA
              have TA1 := Lib.hid hta1
              have TB1 := Lib.hid htb1
              have HX := Lib.hid hx
              have HP := Lib.hid hp
              have HMR := Lib.hid hmr
              have HNE := Lib.hid hne
              have HEV := Lib.hid hev
              have HBD := Lib.hid hbd
              have HBT := Lib.hid hbt
              have hsw := hbt.size
              obtain ⟨item, hi1, hi2, hi3, hi4⟩ := elPair.hi
              clear hta1 htb1 hx hp hmr hne hev hbd hbt
              go_wp2_with (at_builtin; go_must (refine wpList_append_lies _ rfl _ _ _ rfl w.heap.size 69 item (.agg #[.int .i64 0, .int .i64 0, .string ⟨#[]⟩, .slice none 0 0, .int .i64 0, .int .i64 0, .string ⟨#[]⟩, .slice none 0 0]) 8 112 Try.underlying70 hi1 hi2 hi3 hi4 rfl (by omega) _ (ps'.length + (m - (i + 1))) xs rfl (own_below HX.out (belA (Below.refl _ _) _)) ⟨wr.heap.size, 0, none⟩ 1 1 [.int .i64 a0, .int .i64 a1, .string a2, .slice aA am ac, .int .i64 b0, .int .i64 b1, .string b2, .slice bA bm bc'] rfl rfl (World.news_of_block (heap_alloc_new _ _)) (by intro u hu; simp only [List.mem_cons, List.not_mem_nil, or_false] at hu; rcases hu with rfl | rfl | rfl | rfl | rfl | rfl | rfl | rfl <;> rfl) (by omega) (by unfold maxLen; omega) (by omega) (by simp; omega) _ rfl ?_))
              intro g1 cap1 w10 hown1 hg1 hat1 hlt1
              have WB1 := belA (Below.refl wr.heap.size wr) (Obj.cells #[.int .i64 a0, .int .i64 a1, .string a2, .slice aA am ac, .int .i64 b0, .int .i64 b1, .string b2, .slice bA bm bc'] 69)
              have hxw := own_below HX.out WB1
              have hlst : (ps' ++ (pairsFrom (i + 1) m gg hh).reverse).length = ps'.length + (m - (i + 1)) := by rw [List.length_append, List.length_reverse, pairsFrom_length]
              have S10 := Lib.hid (show PRow w10 w.heap.size (.slice (some ⟨g1, 0, none⟩) (ps'.length + (m - (i + 1)) + 1) cap1) (ps' ++ (pairsFrom i m gg hh).reverse) from by
                rw [pairsFrom_step hmi, List.reverse_cons, ← List.append_assoc]
                exact PRow.push (by rw [hlst]; exact HX.out) HP.out WB1 (TA1.out.below WB1) (TB1.out.below WB1) (by rw [hlst]; exact hown1) hg1)
              have M10 := Lib.hid (PRow.grownP hxw hg1 (HMR.out.below WB1) HNE.out)
              have N10 := Lib.hid (show ∀ q, Value.ownBlock (.slice (some ⟨gm, 0, none⟩) m mc) = some q → (Value.slice (some ⟨g1, 0, none⟩) (ps'.length + (m - (i + 1)) + 1) cap1).ownBlock ≠ some q from fun q hq e => by
                have h5 : g1 = q := by simpa [Value.ownBlock] using e
                subst h5
                rcases hat1 with h6 | h6
                · exact HNE.out _ hq h6
                · obtain ⟨zs, hz, _⟩ := HMR.out
                  have := (hz.lt _ hq).2
                  have h8 : g1 = wr.heap.size + 1 := h6.trans (by simp)
                  omega)
              have E10 := Lib.hid (EnvP.grown hxw hg1 (by decide) (by decide) (HEV.out.below WB1))
              have B10 := Lib.hid (own_far hxw hg1 (own_below HBD.out WB1) (by decide))
              have T10 := Lib.hid (But.grown (HBT.out.trans (But.of WB1)) hg1 fun k hk => (hxw.lt k hk).1)
              have hle := Lib.hid (show ps'.length + (m - (i + 1)) + 1 = ps'.length + (m - i) from sub_step hmi _)
              clear hown1 hg1 hat1 hlt1 WB1 hxw hlst
              go_wp2_with fail
              go_roundw
              case rel => exact ⟨i, some ⟨g1, 0, none⟩, cap1, idx_start i, by omega, by rw [hle.out], S10.out, M10.out, N10.out, E10.out, B10.out, T10.out⟩
              case measure => first | (simp [intOf]; done) | (simp [intOf]; omega)
            · have F1 := Lib.hid (show UL (uniF 2000 L [(ta, tb)]) L w eb mb N _ f _ (.slice BA M.length bc) (ps' ++ (pairsOf m gg hh).reverse) (M) N1 from ⟨by rw [← pairsFrom_zero]; exact hsr, hbd, hev, by omega, HLEN.out, HPL.out, HOK.out, HEQ.out, hbt⟩)
              clear hsr hmr hne hev hbd hbt
              go_wp2_with fail
              go_roundw
              case rel => exact ⟨k + 1, f, _, M, N1, by go_num, by omega, F1.out⟩
              case measure => simp [intOf]; omega
end Go.Proofs.Ytjjkigphfijnbaa
