/- What the laws of unification keep while they walk: both environments, the row of pairs. -/
import Derived.Test.YtjjkigphfijnbaaPairs
namespace Go.Proofs.Ytjjkigphfijnbaa
open Go.RowKit

theorem Try.info_bool : (Try.prog.info? 4).map (fun i => (i.zero, i.size, i.bytes)) = some (some (.bool false), 1, 1) := by kernel_rfl
theorem elBool : El Try.prog 35 4 (.bool false) 1 1 := by
  obtain ⟨i0, hi, hz0, hz1, hz2⟩ := info_parts Try.info_bool
  exact ⟨Try.underlying35, ⟨i0, hi, hz0, hz1, hz2⟩, rfl, by omega⟩
/-- A block that a law may write: a map, or the reference's environment. -/
def Spare (w : World) (b : Nat) : Prop := ∀ cs ty f, w.heap[b]? = some (.cells cs ty f) → ty = 67
theorem IsMapAt.spare {w : World} {b : Nat} (h : IsMapAt w b) : Spare w b := fun cs ty f hh => by
  obtain ⟨es, clock, hm⟩ := h
  rw [hm] at hh
  cases hh
theorem RB.spare {w : World} {rb : Nat} {L : Bs} (h : RB w rb L) : Spare w rb := fun cs ty f hh => by
  obtain ⟨⟨A, c, h1, _⟩, _⟩ := h
  rw [h1] at hh
  injection hh with hh
  injection hh with _ hh
  exact hh.symm
theorem But.far {b : Nat} {w w' : World} (h : But b w w') (hs : Spare w b) {g : Nat} {cs : Array Value} {ty : TypeId} {m : Nat × Nat} (hg : w.heap[g]? = some (.cells cs ty m)) (hne : ty ≠ 67) : w'.heap[g]? = some (.cells cs ty m) := by
  refine (h.block g (heap_lt hg) ?_).trans hg
  rintro rfl
  exact hne (hs _ _ _ hg)
theorem TP.far {b : Nat} {w w' : World} {S : Nat → Prop} {t : T} {v : Value} (ht : TP w S t v) (h : But b w w') (hs : Spare w b) : TP w' S t v := ht.keep fun _ _ _ hS hh => ⟨h.far hs hh (by decide), hS⟩
theorem EnvP.far {b : Nat} {w w' : World} {eb mb N : Nat} {L : Bs} (h : EnvP w eb mb N L) (hw : But b w w') (hs : Spare w b) (hne : mb ≠ b) : EnvP w' eb mb N L := by
  obtain ⟨M, hM, hL⟩ := h.map
  refine ⟨hw.far hs h.blk (by decide), h.few, ⟨M, hM.keep (hw.block mb hM.lt hne), fun i => ⟨(hL i).1, fun t ht => ?_⟩⟩, h.ok⟩
  obtain ⟨v, h1, h2⟩ := (hL i).2 t ht
  exact ⟨v, h1, h2.far hw hs⟩
theorem BL.far {b : Nat} {w w' : World} {A : Option Addr} {c : Nat} {L : Bs} (h : BL w A c L) (hw : But b w w') (hs : Spare w b) : BL w' A c L :=
  ⟨h.cap, h.nil, h.few, fun i p hp => by
    obtain ⟨b, cs, f, k0, k1, k2, A0, m0, c0, hA, hh, h0, h1, h2, h3, h4, ht⟩ := h.cells i p hp
    exact ⟨b, cs, f, k0, k1, k2, A0, m0, c0, hA, hw.far hs hh (by decide), h0, h1, h2, h3, h4, ht.far hw hs⟩⟩
theorem RB.far {b : Nat} {w w' : World} {rb : Nat} {L : Bs} (h : RB w rb L) (hw : But b w w') (hs : Spare w b) (hne : rb ≠ b) : RB w' rb L := by
  obtain ⟨⟨A, c, h1, h2⟩, h3⟩ := h
  exact ⟨⟨A, c, (hw.block rb (heap_lt h1) hne).trans h1, h2.far hw hs⟩, h3⟩
theorem own_spare {w w' : World} {B b : Nat} {e : TypeId} {n : Nat} {v : Value} {xs : List Value} {k : Nat} (h : w.ownsRow B e k v n xs) (hw : But b w w') (hs : Spare w b) (hne : e ≠ 67) : w'.ownsRow B e k v n xs :=
  own_keep h fun g hg => by
    obtain ⟨c, fz, hh⟩ := Go.Lib.ownsRow_kind h g hg
    exact (hw.far hs hh hne).trans hh.symm
theorem QRow.far {b : Nat} {w w' : World} {B : Nat} {v : Value} {ps : List (T × T)} (h : QRow w B v ps) (hw : But b w w') (hs : Spare w b) : QRow w' B v ps := by
  obtain ⟨xs, hx, hp⟩ := h
  refine ⟨xs, own_spare hx hw hs (by decide), fun q p hq => ?_⟩
  obtain ⟨_, _, _, _, _, _, _, _, _, _, _, _, hc⟩ := hp q p hq
  exact ⟨_, _, _, _, _, _, _, _, _, _, _, _, hc.keep (fun _ _ => rfl) fun ht => ht.far hw hs⟩
/-! An append to a row of another kind. -/
theorem BL.grown {w1 w2 : World} {B k : Nat} {e : TypeId} {n : Nat} {v : Value} {xs : List Value} (hx : w1.ownsRow B e k v n xs) (hg : w1.grownBy w2 v.ownBlock) (h1 : 77 ≠ e) (h2 : 34 ≠ e) {A : Option Addr} {c : Nat} {L : Bs} (h : BL w1 A c L) : BL w2 A c L :=
  ⟨h.cap, h.nil, h.few, fun i p hp => by
    obtain ⟨b, cs, f, k0, k1, k2, A0, m0, c0, hA, hh, a0, a1, a2, a3, a4, ht⟩ := h.cells i p hp
    exact ⟨b, cs, f, k0, k1, k2, A0, m0, c0, hA, grown_far hx hg hh fun _ _ => cells_ne h1, a0, a1, a2, a3, a4, ht.keep fun b cs f hS hh => ⟨grown_far hx hg hh fun _ _ => cells_ne h2, hS⟩⟩⟩
theorem RB.grown {w1 w2 : World} {B k : Nat} {e : TypeId} {n : Nat} {v : Value} {xs : List Value} (hx : w1.ownsRow B e k v n xs) (hg : w1.grownBy w2 v.ownBlock) (h0 : 67 ≠ e) (h1 : 77 ≠ e) (h2 : 34 ≠ e) {rb : Nat} {L : Bs} (h : RB w1 rb L) : RB w2 rb L := by
  obtain ⟨⟨A, c, a1, a2⟩, a3⟩ := h
  exact ⟨⟨A, c, grown_far hx hg a1 fun _ _ => cells_ne h0, a2.grown hx hg h1 h2⟩, a3⟩
theorem QRow.grownO {w1 w2 : World} {B k : Nat} {e : TypeId} {n : Nat} {v : Value} {xs : List Value} (hx : w1.ownsRow B e k v n xs) (hg : w1.grownBy w2 v.ownBlock) (h1 : 37 ≠ e) (h2 : 34 ≠ e) {B' : Nat} {v' : Value} {ps : List (T × T)} (h : QRow w1 B' v' ps) : QRow w2 B' v' ps := by
  obtain ⟨ys, hy, hp⟩ := h
  refine ⟨ys, own_far hx hg hy h1, fun q p hq => ?_⟩
  obtain ⟨_, _, _, _, _, _, _, _, _, _, _, _, hc⟩ := hp q p hq
  exact ⟨_, _, _, _, _, _, _, _, _, _, _, _, hc.keep (fun _ _ => rfl) fun ht => ht.keep fun b cs f hS hh => ⟨grown_far hx hg hh fun _ _ => cells_ne h2, hS⟩⟩
/-- Where a law stands: w0 is the world at its start. -/
structure FS (w0 w : World) (eb mb rb N : Nat) (L : Bs) (v : Value) (ps : List (T × T)) : Prop where
  env : EnvP w eb mb N L
  ref : RB w rb L
  row : QRow w w0.heap.size v ps
  low : Below w0.heap.size w0 w
  mlo : w0.heap.size ≤ mb
  rlo : w0.heap.size ≤ rb
theorem FS.below {w0 w w' : World} {eb mb rb N : Nat} {L : Bs} {v : Value} {ps : List (T × T)} (h : FS w0 w eb mb rb N L v ps) (hb : Below w.heap.size w w') : FS w0 w' eb mb rb N L v ps :=
  ⟨h.env.below hb, h.ref.below hb, h.row.below hb, h.low.trans (hb.mono h.low.size), h.mlo, h.rlo⟩
theorem FS.ne {w0 w : World} {eb mb rb N : Nat} {L : Bs} {v : Value} {ps : List (T × T)} (h : FS w0 w eb mb rb N L v ps) : mb ≠ rb := by
  rintro rfl
  obtain ⟨M, hM, _⟩ := h.env.map
  obtain ⟨es, clock, hm⟩ := hM.is
  obtain ⟨⟨A, c, h1, _⟩, _⟩ := h.ref
  rw [hm] at h1
  cases h1
theorem EnvP.isMap {w : World} {eb mb N : Nat} {L : Bs} (h : EnvP w eb mb N L) : IsMapAt w mb := by
  obtain ⟨M, hM, _⟩ := h.map
  exact hM.is
/-- Behind the program's Unify. -/
theorem FS.afterU {w0 w w' : World} {eb mb rb N N' : Nat} {L L' : Bs} {v : Value} {ps : List (T × T)} (h : FS w0 w eb mb rb N L v ps) (hb : But mb w w') (he : EnvP w' eb mb N' L') :
    EnvP w' eb mb N' L' ∧ RB w' rb L ∧ QRow w' w0.heap.size v ps ∧ Below w0.heap.size w0 w' :=
  ⟨he, h.ref.far hb h.env.isMap.spare h.ne.symm, h.row.far hb h.env.isMap.spare, h.low.trans (hb.below h.mlo h.low.size)⟩
/-- Behind both. -/
theorem FS.after {w0 w w' w'' : World} {eb mb rb N N' : Nat} {L L' : Bs} {v : Value} {ps : List (T × T)} (h : FS w0 w eb mb rb N L v ps) (hb : But mb w w') (he : EnvP w' eb mb N' L') (hb2 : But rb w' w'') (hr : RB w'' rb L') : FS w0 w'' eb mb rb N' L' v ps := by
  obtain ⟨_, a2, a3, a4⟩ := h.afterU hb he
  exact ⟨he.far hb2 a2.spare h.ne, hr, a3.far hb2 a2.spare, a4.trans (hb2.below h.rlo a4.size), h.mlo, h.rlo⟩
/-- Behind an append to a row of the law's own. -/
theorem FS.grown {w0 w1 w2 : World} {k : Nat} {e : TypeId} {n : Nat} {u : Value} {xs : List Value} (hx : w1.ownsRow w0.heap.size e k u n xs) (hg : w1.grownBy w2 u.ownBlock) (h0 : 64 ≠ e ∧ 67 ≠ e ∧ 77 ≠ e ∧ 34 ≠ e ∧ 37 ≠ e)
    {eb mb rb N : Nat} {L : Bs} {v : Value} {ps : List (T × T)} (h : FS w0 w1 eb mb rb N L v ps) : FS w0 w2 eb mb rb N L v ps :=
  ⟨h.env.grown hx hg h0.1 h0.2.2.2.1, h.ref.grown hx hg h0.2.1 h0.2.2.1 h0.2.2.2.1, h.row.grownO hx hg h0.2.2.2.2 h0.2.2.2.1, h.low.grown hg h.low.size fun k hk => (hx.lt k hk).1, h.mlo, h.rlo⟩
/-- What 'was' holds. -/
def wasL (L : Bs) (n : Nat) : List Value := (List.range n).map fun (j : Nat) => .bool (findB L (j : Int)).isSome
theorem wasL_length (L : Bs) (n : Nat) : (wasL L n).length = n := by simp [wasL]
theorem wasL_succ (L : Bs) (n : Nat) : wasL L (n + 1) = wasL L n ++ [.bool (findB L (n : Int)).isSome] := by simp [wasL, List.range_succ]
theorem wasL_get (L : Bs) {n j : Nat} (h : j < n) : (wasL L n)[j]? = some (.bool (findB L (j : Int)).isSome) := by simp [wasL, h]
/-- New keys: not there before, there behind. -/
theorem findB_app {L M : Bs} {i : Int} (h : i ∉ M.map Prod.fst) : findB (L ++ M) i = findB L i := by
  induction L with
  | nil => simp only [List.nil_append, findB]; exact findB_no' h
  | cons p L ih =>
    obtain ⟨k, y⟩ := p
    simp only [List.cons_append, findB]
    by_cases e : k = i
    · simp [e]
    · simp only [if_neg e]; exact ih
theorem new_key {L M : Bs} (h : EnvOk (L ++ M)) {i : Int} (hi : i ∈ M.map Prod.fst) : findB L i = none ∧ (findB (L ++ M) i).isSome = true ∧ 0 ≤ i ∧ i < 1000 := by
  obtain ⟨p, hp, rfl⟩ := List.mem_map.mp hi
  have hnd := h.nd
  rw [List.map_append, List.nodup_append] at hnd
  have h2 : (p.1, p.2) ∈ L ++ M := List.mem_append.mpr (.inr hp)
  refine ⟨?_, by rw [findB_of_mem h.nd h2]; rfl, (h.ok p (List.mem_append.mpr (.inr hp))).1, (h.ok p (List.mem_append.mpr (.inr hp))).2.1⟩
  cases hf : findB L p.1 with
  | none => rfl
  | some x => exact absurd rfl (hnd.2.2 p.1 (List.mem_map.mpr ⟨_, findB_mem hf, rfl⟩) p.1 hi)
theorem new_few {L M : Bs} (h : EnvOk (L ++ M)) : (M.map Prod.fst).length ≤ 1000 := by
  have h1 := nodup_few 1000 ((L ++ M).map Prod.fst) h.nd fun i hi => by
    obtain ⟨p, hp, rfl⟩ := List.mem_map.mp hi
    exact ⟨(h.ok p hp).1, (h.ok p hp).2.1⟩
  rw [List.map_append, List.length_append] at h1
  omega
def intT (n : Int) : T := .mk 2 n ⟨#[]⟩ 0 fun _ => .nil
theorem intT_ok {n : Int} (h : I64 n) : (intT n).ok := ⟨⟨.inr (.inl ⟨rfl, h, rfl, rfl⟩), fun i hi => absurd hi (by omega)⟩, by simp [intT, T.nodes, sumTo]⟩
theorem varT_ok {n : Int} (h0 : 0 ≤ n) (h1 : n < 1000) : (varT n).ok := ⟨⟨.inl ⟨rfl, h0, h1, rfl, rfl⟩, fun i hi => absurd hi (by omega)⟩, by simp [varT, T.nodes, sumTo]⟩
theorem walkN_nil (t : T) : walkN [] t = t := rfl
theorem uni_ints : uniF 2000 [] [(intT 1, intT 2)] = .unlike := by
  simp [uniF, walkN_nil, stepU, intT]
/-! Both outcomes of Unify in one form. -/
def resErr : Res → Int
  | .ok _ _ => 0
  | .many => 34
  | .unlike => 80
def newB (L : Bs) : Res → Bs
  | .ok L1 _ => L1.drop L.length
  | .many => []
  | .unlike => []
theorem newB_none {L : Bs} {r : Res} (h : resErr r ≠ 0) : newB L r = [] := by
  cases r with
  | ok L1 f => exact absurd rfl h
  | many => rfl
  | unlike => rfl
theorem newB_ok (L M : Bs) (f : Nat) : newB L (.ok (L ++ M) f) = M := by simp [newB]
theorem unify_u {w : World} {eb mb N : Nat} {L : Bs} (h : EnvP w eb mb N L) (hN : N + 2000 ≤ 1000000) {ta tb : T} {va vb : Value} (ha : TP w (fun _ => True) ta va) (hb : TP w (fun _ => True) tb vb) (oa : ta.ok) (ob : tb.ok) {r : Res} (hr : uniF 2000 L [(ta, tb)] = r) :
    Calls Try.prog 13 #[.pointer (some ⟨eb, 0, none⟩), va, vb] w fun e w' => (∃ A c, e = .returned (.tuple #[.slice A ((newB L r).map Prod.fst).length c, .int .i64 (resErr r)]) ∧ IRow w' (.slice A ((newB L r).map Prod.fst).length c) ((newB L r).map Prod.fst) ∧ EnvP w' eb mb (N + 2000) (L ++ newB L r)) ∧ But mb w w' := by
  refine (unify_any h hN ha hb oa ob).mono fun e w' h1 => ?_
  rw [hr] at h1
  cases r with
  | ok L1 f =>
    obtain ⟨⟨v, M, rfl, rfl, h2, h3⟩, h4⟩ := h1
    rw [newB_ok]
    obtain ⟨A, c, rfl, _⟩ := h2.open_
    exact ⟨⟨A, c, rfl, h2, h3⟩, h4⟩
  | many =>
    obtain ⟨⟨rfl, h3⟩, h4⟩ := h1
    exact ⟨⟨none, 0, rfl, IRow.nil _, by simpa [newB] using h3⟩, h4⟩
  | unlike =>
    obtain ⟨⟨rfl, h3⟩, h4⟩ := h1
    exact ⟨⟨none, 0, rfl, IRow.nil _, by simpa [newB] using h3⟩, h4⟩
theorem runify_u {w : World} {rb : Nat} {L : Bs} (h : RB w rb L) {ta tb : T} {va vb : Value} (ha : TP w (fun _ => True) ta va) (hb : TP w (fun _ => True) tb vb) (oa : ta.ok) (ob : tb.ok) {r : Res} (hr : uniF 2000 L [(ta, tb)] = r) :
    Calls Try.prog 15 #[.pointer (some ⟨rb, 0, none⟩), va, vb] w fun e w' => (∃ A c, e = .returned (.tuple #[.slice A ((newB L r).map Prod.fst).length c, .int .i64 (resErr r)]) ∧ IRow w' (.slice A ((newB L r).map Prod.fst).length c) ((newB L r).map Prod.fst) ∧ RB w' rb (L ++ newB L r)) ∧ But rb w w' := by
  refine (runify_any h ha hb oa ob).mono fun e w' h1 => ?_
  rw [hr] at h1
  cases r with
  | ok L1 f =>
    obtain ⟨⟨v, M, rfl, rfl, h2, h3⟩, h4⟩ := h1
    rw [newB_ok]
    obtain ⟨A, c, rfl, _⟩ := h2.open_
    exact ⟨⟨A, c, rfl, h2, h3⟩, h4⟩
  | many =>
    obtain ⟨⟨rfl, h3⟩, h4⟩ := h1
    exact ⟨⟨none, 0, rfl, IRow.nil _, by simpa [newB] using h3⟩, h4⟩
  | unlike =>
    obtain ⟨⟨rfl, h3⟩, h4⟩ := h1
    exact ⟨⟨none, 0, rfl, IRow.nil _, by simpa [newB] using h3⟩, h4⟩
theorem World.heap_of_far {b : Nat} {w w' : World} (h : But b w w') (hs : Spare w b) {g : Nat} {cs : Array Value} {m : Nat × Nat} (hg : w.heap[g]? = some (.cells cs 37 m)) : w'.heap[g]? = w.heap[g]? := (h.far hs hg (by decide)).trans hg.symm
theorem QRow.blk {w : World} {B g n cap : Nat} {ps : List (T × T)} (h : QRow w B (.slice (some ⟨g, 0, none⟩) n cap) ps) : ∃ cs f, w.heap[g]? = some (.cells cs 37 f) := by
  obtain ⟨xs, hx, _⟩ := h
  exact Go.Lib.ownsRow_kind hx g rfl
theorem own_kind {w : World} {B k : Nat} {e : TypeId} {n : Nat} {xs : List Value} {g m cap : Nat} (h : w.ownsRow B e k (.slice (some ⟨g, 0, none⟩) m cap) n xs) : ∃ cs f, w.heap[g]? = some (.cells cs e f) := Go.Lib.ownsRow_kind h g rfl
end Go.Proofs.Ytjjkigphfijnbaa
