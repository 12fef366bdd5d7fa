/- The reference's store in memory; New, Bound, Size, Attr, known, Resolve. -/
import Derived.Test.YtgoedlbdnmhppaaSa2
import Derived.Test.YtgoedlbdnmhppaaSa3
import Derived.Test.YtgoedlbdnmhppaaSized
import Derived.Test.YtgoedlbdnmhppaaRes2
import Derived.Test.YtgoedlbdnmhppaaVars
namespace Go.Proofs.Ytgoedlbdnmhppaa
open Go.RowKit

theorem Try.info_state : (Try.prog.info? 32).map (fun i => (i.zero, i.size, i.bytes)) = some (some (.agg #[.int .i64 0, .slice none 0 0, .slice none 0 0]), 3, 56) := by kernel_rfl
theorem elState : El Try.prog 33 32 (.agg #[.int .i64 0, .slice none 0 0, .slice none 0 0]) 3 56 := by
  obtain ⟨i0, hi, hz0, hz1, hz2⟩ := info_parts Try.info_state
  exact ⟨Try.underlying33, ⟨i0, hi, hz0, hz1, hz2⟩, rfl, by omega⟩
/-- A state's values. -/
structure PV where
  n : Nat
  LA : Option Addr
  ln : Nat
  lc : Nat
  AA : Option Addr
  am : Nat
  ac : Nat
def PV.vals (p : PV) : List Value := [.int .i64 (p.n : Int), .slice p.LA p.ln p.lc, .slice p.AA p.am p.ac]
def PV.zero : PV := ⟨0, none, 0, 0, none, 0, 0⟩
theorem pvals_len (p : PV) : p.vals.length = 3 := rfl
theorem tvals_len (t : TV) : t.vals.length = 4 := rfl
/-- The reference's store: its box, the row of its marks. -/
structure RM (w : World) (B rb : Nat) (p : PV) (Ps : List PV) : Prop where
  ex : ∃ MA mc, w.heap[rb]? = some (.cells #[.int .i64 (p.n : Int), .slice p.LA p.ln p.lc, .slice p.AA p.am p.ac, .slice MA Ps.length mc] 35 (0, 0)) ∧
    w.ownsRow B 32 3 (.slice MA Ps.length mc) Ps.length (Ps.flatMap PV.vals)
  ge : B ≤ rb
def noneT : T := .mk 0 0 ⟨#[]⟩ 0 fun _ => .nil
def T.aok (t : T) : Prop := t.ok ∨ t = noneT
/-- Values tell terms. -/
structure AT (w : World) (ts : List TV) (As : List T) : Prop where
  len : ts.length = As.length
  tp : ∀ (i : Nat) (v : TV) (a : T), ts[i]? = some v → As[i]? = some a → TP w (fun _ => True) a (.agg #[.int .i64 v.k, .int .i64 v.n, .string v.s, .slice v.A v.m v.c]) ∧ a.aok
theorem AT.keep {w w' : World} {ts : List TV} {As : List T} (h : AT w ts As) (hk : ∀ {t : T} {v : Value}, TP w (fun _ => True) t v → TP w' (fun _ => True) t v) : AT w' ts As :=
  ⟨h.len, fun i v a h1 h2 => ⟨hk (h.tp i v a h1 h2).1, (h.tp i v a h1 h2).2⟩⟩
/-- A state. -/
structure PA (w : World) (p : PV) (L : Bs) (As : List T) : Prop where
  n : p.n = As.length
  ln : p.ln = L.length
  am : p.am = As.length
  bl : BL w p.LA p.lc L
  ok : EnvOk L
  at_ : ∃ ts, w.ownsRow 0 40 4 (.slice p.AA p.am p.ac) p.am (ts.flatMap TV.vals) ∧ AT w ts As
theorem PA.keep {w w' : World} {p : PV} {L : Bs} {As : List T} (h : PA w p L As) (hk : ∀ (k : Nat) (cs : Array Value) (ty : TypeId) (f : Nat × Nat), w.heap[k]? = some (.cells cs ty f) → (ty = 40 ∨ ty = 97) → w'.heap[k]? = some (.cells cs ty f)) : PA w' p L As := by
  have ht : ∀ {S : Nat → Prop} {t : T} {v : Value}, TP w S t v → TP w' S t v := fun h => h.keep fun b cs f hS hh => ⟨hk _ _ _ _ hh (.inl rfl), hS⟩
  obtain ⟨ts, h1, h2⟩ := h.at_
  refine ⟨h.n, h.ln, h.am, ⟨h.bl.cap, h.bl.nil, h.bl.few, fun i q hq => ?_⟩, h.ok, ts, ?_, h2.keep ht⟩
  · obtain ⟨b, cs, f, k0, k1, k2, A0, m0, c0, hA, hh, h0, h1, h2, h3, h4, htp⟩ := h.bl.cells i q hq
    exact ⟨b, cs, f, k0, k1, k2, A0, m0, c0, hA, hk _ _ _ _ hh (.inr rfl), h0, h1, h2, h3, h4, ht htp⟩
  · refine own_keep h1 fun g hg => ?_
    obtain ⟨cs, f, hh⟩ := Go.Lib.ownsRow_kind h1 g hg
    exact (hk _ _ _ _ hh (.inl rfl)).trans hh.symm
theorem PA.below {w w' : World} {p : PV} {L : Bs} {As : List T} (h : PA w p L As) (hb : Below w.heap.size w w') : PA w' p L As := h.keep fun k _ _ _ hk _ => (hb.block k (heap_lt hk)).trans hk
theorem PA.sf {B : Nat} {w w' : World} {p : PV} {L : Bs} {As : List T} (h : PA w p L As) (hb : SF B w w') : PA w' p L As :=
  h.keep fun k _ _ _ hk hty => hb.far k _ hk (notSt_of (by rcases hty with rfl | rfl <;> decide))
/-- What a call of the reference's leaves alone. -/
def NotRf (rb k : Nat) (o : Obj) : Prop := ∀ cs ty f, o = .cells cs ty f → (ty = 35 → k ≠ rb) ∧ ty ≠ 32
structure RF (B rb : Nat) (w w' : World) : Prop where
  low : Below B w w'
  far : ∀ (k : Nat) (o : Obj), w.heap[k]? = some o → NotRf rb k o → w'.heap[k]? = some o
theorem notRf_of {rb k : Nat} {cs : Array Value} {ty : TypeId} {f : Nat × Nat} (h : ty ≠ 35 ∧ ty ≠ 32) : NotRf rb k (.cells cs ty f) := fun _ _ _ e => by injection e with _ e; subst e; exact ⟨fun e => absurd e h.1, h.2⟩
theorem RF.trans {B rb : Nat} {a b c : World} (h : RF B rb a b) (k : RF B rb b c) : RF B rb a c := ⟨h.low.trans k.low, fun g o h1 h2 => k.far g o (h.far g o h1 h2) h2⟩
theorem RF.below {B rb : Nat} {w w' : World} (hB : B ≤ w.heap.size) (h : Below w.heap.size w w') : RF B rb w w' := ⟨h.mono hB, fun k _ h1 _ => (h.block k (heap_lt h1)).trans h1⟩
theorem SM.rf {B B' sb rb : Nat} {w w' : World} {C : List CV} {R : List (CV × Nat)} {M : List (Nat × Nat)} (h : SM w B sb C R M) (hf : RF B' rb w w') : SM w' B sb C R M :=
  h.keep fun k _ _ _ hk hty => hf.far k _ hk (notRf_of (by rcases hty with rfl | rfl | rfl | rfl <;> decide))
theorem TP.rf {B rb : Nat} {w w' : World} {S : Nat → Prop} {t : T} {v : Value} (h : TP w S t v) (hf : RF B rb w w') : TP w' S t v := h.keep fun b _ _ hS hh => ⟨hf.far b _ hh (notRf_of (by decide)), hS⟩
theorem CL.rf {B rb : Nat} {w w' : World} {C : List CV} {L : Bs} (h : CL w C L) (hf : RF B rb w w') : CL w' C L := h.keep fun ht => ht.rf hf
theorem AT.rf {B rb : Nat} {w w' : World} {ts : List TV} {As : List T} (h : AT w ts As) (hf : RF B rb w w') : AT w' ts As := h.keep fun ht => ht.rf hf
theorem AT.sf {B : Nat} {w w' : World} {ts : List TV} {As : List T} (h : AT w ts As) (hf : SF B w w') : AT w' ts As := h.keep fun ht => ht.sf hf
theorem PA.rf {B rb : Nat} {w w' : World} {p : PV} {L : Bs} {As : List T} (h : PA w p L As) (hb : RF B rb w w') : PA w' p L As :=
  h.keep fun k _ _ _ hk hty => hb.far k _ hk (notRf_of (by rcases hty with rfl | rfl <;> decide))
/-- What is of neither store stands, and the boxes of other reference's stores. -/
def Kb (rb : Nat) (w w' : World) : Prop := ∀ (k : Nat) (o : Obj), w.heap[k]? = some o → NotSt o → NotRf rb k o → w'.heap[k]? = some o
theorem Kb.trans {rb : Nat} {a b c : World} (h : Kb rb a b) (k : Kb rb b c) : Kb rb a c := fun g o h1 h2 h3 => k g o (h g o h1 h2 h3) h2 h3
theorem RF.kb {B rb : Nat} {w w' : World} (h : RF B rb w w') : Kb rb w w' := fun k o h1 _ h3 => h.far k o h1 h3
theorem SF.kb {B rb : Nat} {w w' : World} (h : SF B w w') : Kb rb w w' := fun k o h1 h2 _ => h.far k o h1 h2
theorem Below.kb {rb : Nat} {w w' : World} (h : Below w.heap.size w w') : Kb rb w w' := fun k _ h1 _ _ => (h.block k (heap_lt h1)).trans h1
theorem Kb.drew {rb : Nat} {w w' : World} (h : Kb rb w w') : Kb rb w w'.drew := h.trans (Below.kb (Below.refl _ _).drew)
theorem Kb.undrew {rb : Nat} {w w' : World} (h : Kb rb w.drew w') : Kb rb w w' := Kb.trans (Below.kb (Below.refl _ _).drew) h
theorem RM.keep {w w' : World} {B rb : Nat} {p : PV} {Ps : List PV} (h : RM w B rb p Ps) (hk : ∀ (k : Nat) (cs : Array Value) (ty : TypeId) (f : Nat × Nat), w.heap[k]? = some (.cells cs ty f) → (ty = 35 ∨ ty = 32) → w'.heap[k]? = some (.cells cs ty f)) : RM w' B rb p Ps := by
  obtain ⟨MA, mc, h0, h1⟩ := h.ex
  refine ⟨⟨MA, mc, hk _ _ _ _ h0 (.inl rfl), own_keep h1 fun g hg => ?_⟩, h.ge⟩
  obtain ⟨cs, f, hh⟩ := Go.Lib.ownsRow_kind h1 g hg
  exact (hk _ _ _ _ hh (.inr rfl)).trans hh.symm
theorem RM.below {w w' : World} {B rb : Nat} {p : PV} {Ps : List PV} (h : RM w B rb p Ps) (hb : Below w.heap.size w w') : RM w' B rb p Ps := h.keep fun k _ _ _ hk _ => (hb.block k (heap_lt hk)).trans hk
theorem RM.sf {B B' : Nat} {w w' : World} {rb : Nat} {p : PV} {Ps : List PV} (h : RM w B rb p Ps) (hb : SF B' w w') : RM w' B rb p Ps :=
  h.keep fun k _ _ _ hk hty => hb.far k _ hk (notSt_of (by rcases hty with rfl | rfl <;> decide))
/-- The box's four cells. -/
theorem RM.box {w : World} {B rb : Nat} {p : PV} {Ps : List PV} (h : RM w B rb p Ps) : ∃ MA mc, w.cell? ⟨rb, 0, none⟩ = some (.int .i64 (p.n : Int)) ∧ w.cell? ⟨rb, 1, none⟩ = some (.slice p.LA p.ln p.lc) ∧ w.cell? ⟨rb, 2, none⟩ = some (.slice p.AA p.am p.ac) ∧ w.cell? ⟨rb, 3, none⟩ = some (.slice MA Ps.length mc) ∧
    (∀ j, w.frozen? ⟨rb, j, none⟩ = false) ∧ rb < w.heap.size ∧ w.heap[rb]? = some (.cells #[.int .i64 (p.n : Int), .slice p.LA p.ln p.lc, .slice p.AA p.am p.ac, .slice MA Ps.length mc] 35 (0, 0)) ∧
    w.ownsRow B 32 3 (.slice MA Ps.length mc) Ps.length (Ps.flatMap PV.vals) := by
  obtain ⟨MA, mc, h0, h1⟩ := h.ex
  obtain ⟨a, b, c, d⟩ := box4 h0
  exact ⟨MA, mc, a, b, c, d, unfrozen h0, heap_lt h0, h0, h1⟩
theorem rnew9_any (w : World) : Calls Try.prog 9 #[] w fun e w' => e = .returned (.pointer (some ⟨w.heap.size, 0, none⟩)) ∧ RM w' w.heap.size w.heap.size PV.zero [] ∧ Below w.heap.size w w' := by
  go_enter Try.func9, Try.ntmps9
  go_wp2_with fail
  go_ret
  exact ⟨rfl, ⟨⟨none, 0, heap_alloc_new _ _, World.ownsRow_nil _ _ _ _⟩, Nat.le_refl _⟩, (Below.refl _ _).alloc (Nat.le_refl _) _⟩
theorem PA.zero (w : World) : PA w PV.zero [] [] := ⟨rfl, rfl, rfl, ⟨Nat.le_refl _, fun _ => rfl, by simp, fun i p hp => by simp at hp⟩, EnvOk.nil, [], World.ownsRow_nil _ _ _ _, ⟨rfl, fun i v a h => by simp at h⟩⟩
set_option maxRecDepth 100000 in
set_option maxHeartbeats 4000000 in
theorem rbound9_any {w : World} {B rb : Nat} {p : PV} {Ps : List PV} {L : Bs} {As : List T} (h : RM w B rb p Ps) (hp : PA w p L As) (n : Int) :
    Calls Try.prog 45 #[.pointer (some ⟨rb, 0, none⟩), .int .i64 n] w fun e w' => e = .returned (.bool (findB L n).isSome) ∧ Below w.heap.size w w' := by
  obtain ⟨MA, mc, x0, x1, x2, x3, _, hl, _, _⟩ := h.box
  have HB := Lib.hid (belS (Below.refl w.heap.size w) (Obj.cells #[.slice p.LA p.ln p.lc] 85))
  have CB := Lib.hid (rbound_any (w := w.alloc (Obj.cells #[.slice p.LA p.ln p.lc] 85)) (rb := w.heap.size) (L := L) ⟨⟨p.LA, p.lc, by rw [← hp.ln]; exact heap_alloc_new _ _, hp.bl.below HB.out⟩, hp.ok⟩ n)
  clear h hp
  go_enter Try.func45, Try.ntmps45
  go_wp2_with fail
  refine CB.out.mono ?_
  rintro e w5 ⟨rfl, h5⟩
  have H5 := Lib.hid (HB.out.trans (h5.mono HB.out.size))
  clear h5 CB
  go_wp2_with fail
  go_ret
  exact ⟨rfl, H5.out⟩
theorem has_varsT : ∀ {t : T} {v : Int}, t.hasV v → v ∈ varsT t := by
  intro t
  induction t with
  | nil => exact fun h => h.elim
  | mk k n s m a ih =>
    rintro v (⟨rfl, rfl⟩ | ⟨rfl, i, hi, h⟩)
    · simp [varsT]
    · rw [varsT_cmp]
      exact mem_foldN.mpr (.inr ⟨i, hi, ih i h⟩)
def KnownR (t : T) (n : Nat) (w : World) (e : Ending) (w' : World) : Prop := (∃ b, e = .returned (.bool b) ∧ (b = true ↔ allV t (n : Int))) ∧ Below w.heap.size w w'
set_option maxRecDepth 100000 in
set_option maxHeartbeats 4000000 in
theorem rknown9_any {w : World} {B rb : Nat} {p : PV} {Ps : List PV} (h : RM w B rb p Ps) {t : T} {v : Value} {S : Nat → Prop} (hv : TP w S t v) (ht : t.ok) :
    Calls Try.prog 42 #[.pointer (some ⟨rb, 0, none⟩), v] w fun e w' => KnownR t p.n w e w' := by
  obtain ⟨k0, k1, k2, A0, m0, c0, rfl⟩ := hv.agg
  have HB := Lib.hid (belS (Below.refl w.heap.size w) (Obj.cells #[.int .i64 k0, .int .i64 k1, .string k2, .slice A0 m0 c0] 40))
  have CV9 := Lib.hid (vars_any t ht _ _ _ (hv.below HB.out))
  have H := Lib.hid h
  have hfew := varsT_few ht
  clear h hv
  go_enter Try.func42, Try.ntmps42
  go_wp2_with fail
  refine CV9.out.mono ?_
  rintro e w5 ⟨⟨VA, vc, rfl, ho⟩, h5⟩
  have B5 := Lib.hid (HB.out.trans (h5.mono HB.out.size))
  obtain ⟨MA, mc, x0, _, _, _, _, hl, _, _⟩ := (H.out.below B5.out).box
  have HO := Lib.hid ho.irow
  obtain ⟨ln, hln⟩ : ∃ ln, (varsT t).length = ln := ⟨_, rfl⟩
  rw [hln] at hfew ⊢
  have HLN := Lib.hid hln
  clear h5 ho CV9 hln
  go_wp2_with fail
  go_loopw [6] (fun iv wr => ∃ (i q : Nat), iv = .int .i64 (i : Int) ∧ i ≤ ln ∧ (∀ j x, j < i → (varsT t)[j]? = some x → x < (p.n : Int)) ∧ wr = w5.drewN q) (fun iv _ => ln - (intOf iv).toNat)
  case atStart => exact ⟨0, 0, rfl, Nat.zero_le _, fun j x hj => absurd hj (by omega), rfl⟩
  case round =>
    obtain ⟨i, q, rfl, hi, hall, rfl⟩ := hrel
    have HA := Lib.hid hall
    clear hall
    by_cases him : i < ln
    · have him' : (i : Int) < (ln : Int) := by omega
      obtain ⟨x, hx⟩ : ∃ x, (varsT t)[i]? = some x := ⟨_, List.getElem?_eq_getElem (by have := HLN.out; omega)⟩
      obtain ⟨A9, c9, e9, _, _, hc9⟩ := HO.out.open_
      injection e9 with e1 e2 e3
      subst e1; subst e3
      obtain ⟨g, rfl, hg, hcell⟩ := hc9 i x hx
      have HX := Lib.hid hx
      clear hc9 hx e2
      by_cases hlt : x < (p.n : Int)
      · have hge : ¬ x ≥ (p.n : Int) := by omega
        go_wp2_with fail
        go_quiet (fail)
        go_wp2_with fail
        go_roundw
        case rel =>
          refine ⟨i + 1, q + nq, by go_num, him, fun j y hj hy => ?_, by first | rfl | (simp [World.drewN, Nat.add_assoc])⟩
          by_cases hji : j = i
          · subst hji; rw [HX.out] at hy; injection hy with hy; subst hy; exact hlt
          · exact HA.out j y (by omega) hy
        case measure => simp [intOf]; omega
      · have hge : x ≥ (p.n : Int) := by omega
        go_wp2_with fail
        go_quiet (fail)
        go_wp2_with fail
        go_ret
        exact ⟨⟨false, rfl, (fun h => by cases h), fun h => absurd (h x (varsT_has (List.mem_of_getElem? HX.out))) (by omega)⟩, bel_drewN (bel_drewN B5.out _) _⟩
    · obtain rfl : i = ln := by omega
      go_wp2_with fail
      go_ret
      exact ⟨⟨true, rfl, fun _ u hu => by
        have hm := has_varsT hu
        obtain ⟨j, hj, he⟩ := List.getElem_of_mem hm
        exact HA.out j u (by have := HLN.out; omega) (by rw [List.getElem?_eq_getElem hj, he]), fun _ => rfl⟩, bel_drewN B5.out _⟩
end Go.Proofs.Ytgoedlbdnmhppaa
