/- A compound term that is built, argument by argument, in a box of its own: what its loop keeps. The walk through coneyref11.term. -/
import Derived.Test.YtlgeepjlnjlgdaaDoorEF
import Derived.Test.YtlgeepjlnjlgdaaDoorEH
import Derived.Test.YtlgeepjlnjlgdaaDoorEL
namespace Go.Proofs.YtlgeepjlnjlgdaaDoor
open Go.RowKit

/-- Where things lie: what is old lies below B0; the boxes: of the term, of the result, of what is built; the new row lies from lo on. -/
structure Geo (B0 B tb rb ob lo : Nat) : Prop where
  a : B0 ≤ B
  b : B ≤ tb
  c : B ≤ rb
  d : B ≤ ob
  e : tb < lo
  f : rb < lo
  g : ob < lo
  h : tb ≠ ob
  i : rb ≠ ob
structure BldI (ch : Nat → T) (B0 B tb rb ob lo : Nat) (tc rc : Array Value) (s : ByteArray) (m : Nat) (w wr : World) (i : Nat) (o : Value) (xs : List Value) : Prop where
  tb : wr.heap[tb]? = some (.cells tc 24 (0, 0))
  rb : wr.heap[rb]? = some (.cells rc 24 (0, 0))
  ob : wr.heap[ob]? = some (.cells #[.int .i64 4, .int .i64 0, .string s, o] 24 (0, 0))
  own : wr.ownsRow lo 24 4 o i xs
  tp : ∀ q, q < i → ∃ v0 v1 v2 v3, xs[4 * q]? = some v0 ∧ xs[4 * q + 1]? = some v1 ∧ xs[4 * q + 2]? = some v2 ∧ xs[4 * q + 3]? = some v3 ∧
    TP wr (fun b => b < B0 ∨ (lo ≤ b ∧ some b ≠ o.ownBlock)) (ch q) (.agg #[v0, v1, v2, v3])
  hi : i ≤ m
  low : Below B w wr
  lw : lo ≤ wr.heap.size
theorem BldI.push {ch : Nat → T} {B0 B tb rb ob lo : Nat} {tc rc : Array Value} {s : ByteArray} {m : Nat} {w wr w8 w9 : World} {i : Nat} {o : Value} {xs : List Value} {a0 a1 a2 a3 : Value} {g' cap' : Nat} (G : Geo B0 B tb rb ob lo) (h : BldI ch B0 B tb rb ob lo tc rc s m w wr i o xs)
    (hb : Below wr.heap.size wr w8) (ht : TP w8 (fun b => b < B0 ∨ wr.heap.size ≤ b) (ch i) (.agg #[a0, a1, a2, a3])) (hown : w9.ownsRow lo 24 4 (.slice (some ⟨g', 0, none⟩) (i + 1) cap') (i + 1) (xs ++ [a0, a1, a2, a3]))
    (hg : w8.grownBy w9 o.ownBlock) (hat : o.ownBlock = some g' ∨ g' = w8.heap.size) (him : i < m) :
    BldI ch B0 B tb rb ob lo tc rc s m w (w9.setCell ⟨ob, 3, none⟩ (.slice (some ⟨g', 0, none⟩) (i + 1) cap')) (i + 1) (.slice (some ⟨g', 0, none⟩) (i + 1) cap') (xs ++ [a0, a1, a2, a3]) := by
  obtain ⟨Ga, Gb, Gc, Gd, Ge, Gf, Gg, Gh, Gi⟩ := G
  have hol := h.own.lt
  have hg3 : lo ≤ g' := (hown.lt g' rfl).1
  have ho2 := heap_lt h.ob
  have ht2 := heap_lt h.tb
  have hr2 := heap_lt h.rb
  have hs8 := hb.size
  have hl : xs.length = 4 * i := by have := own_len h.own; omega
  have keep : ∀ (b : Nat) (o' : Obj), wr.heap[b]? = some o' → some b ≠ o.ownBlock → b ≠ ob → (w9.setCell ⟨ob, 3, none⟩ (.slice (some ⟨g', 0, none⟩) (i + 1) cap')).heap[b]? = some o' := fun b o' hh hne h2 => by
    have hl := heap_lt hh
    rw [Below.heap_setCell _ _ _ b h2, hg.block b (by omega) hne, hb.block b hl, hh]
  have far : ∀ b, b < lo → some b ≠ o.ownBlock := fun b hb' e => by have := (hol b e.symm).1; omega
  have hob9 : w9.heap[ob]? = some (.cells #[.int .i64 4, .int .i64 0, .string s, o] 24 (0, 0)) := by
    rw [hg.block _ (by omega) (far _ (by omega)), hb.block _ ho2, h.ob]
  refine ⟨keep _ _ h.tb (far _ (by omega)) (by omega), keep _ _ h.rb (far _ (by omega)) (by omega), by simpa using blk_set hob9 3 (.slice (some ⟨g', 0, none⟩) (i + 1) cap'), own_keep hown fun g hg' => Below.heap_setCell _ _ _ _ ?_, fun q hq => ?_, him, ?_, by have := h.lw; have := hg.size; simp; omega⟩
  · simp [Value.ownBlock] at hg'
    show g ≠ ob
    omega
  · by_cases hqi : q = i
    · subst hqi
      have key : ∀ j, (xs ++ [a0, a1, a2, a3])[4 * q + j]? = [a0, a1, a2, a3][j]? := fun j => by
        rw [List.getElem?_append_right (by omega), hl]
        congr 1
        omega
      refine ⟨a0, a1, a2, a3, by simpa using key 0, by simpa using key 1, by simpa using key 2, by simpa using key 3, ht.keep fun b cs f hS hh => ?_⟩
      have hl8 := heap_lt hh
      have hne : some b ≠ o.ownBlock := fun e => by
        have := hol b e.symm
        rcases hS with hS | hS <;> omega
      have hb2 : b ≠ ob := by rcases hS with hS | hS <;> omega
      refine ⟨by rw [Below.heap_setCell _ _ _ b hb2, hg.block b hl8 hne, hh], ?_⟩
      rcases hS with hS | hS
      · exact .inl hS
      · refine .inr ⟨by have := h.lw; omega, ?_⟩
        · rcases hat with e | e
          · rw [e] at hne; simpa [Value.ownBlock] using hne
          · simp [Value.ownBlock]; omega
    · obtain ⟨v0, v1, v2, v3, c0, c1, c2, c3, ht'⟩ := h.tp q (by omega)
      have key : ∀ j, j < 4 → (xs ++ [a0, a1, a2, a3])[4 * q + j]? = xs[4 * q + j]? := fun j hj => List.getElem?_append_left (by omega)
      refine ⟨v0, v1, v2, v3, (key 0 (by omega)).trans c0, (key 1 (by omega)).trans c1, (key 2 (by omega)).trans c2, (key 3 (by omega)).trans c3, ht'.keep fun b cs f hS hh => ?_⟩
      have hlr := heap_lt hh
      have hne : some b ≠ o.ownBlock := by
        rcases hS with hS | hS
        · exact far b (by omega)
        · exact hS.2
      refine ⟨keep b _ hh hne (by rcases hS with hS | hS <;> omega), ?_⟩
      rcases hS with hS | hS
      · exact .inl hS
      · refine .inr ⟨hS.1, ?_⟩
        rcases hat with e | e
        · rw [e] at hne; simpa [Value.ownBlock] using hne
        · simp [Value.ownBlock]; omega
  · have hBs := h.low.size
    exact ((h.low.trans (hb.mono (by omega))).grown hg (by omega) fun k hk => by have := (hol k hk).1; omega).setCell (p := ⟨ob, 3, none⟩) Gd _
theorem BldI.pushK {ch : Nat → T} {B0 B tb rb ob lo : Nat} {tc rc : Array Value} {s : ByteArray} {m : Nat} {w wr w8 w9 : World} {i : Nat} {o : Value} {xs : List Value} {a0 a1 a2 a3 : Value} {g' cap' : Nat} (G : Geo B0 B tb rb ob lo) (h : BldI ch B0 B tb rb ob lo tc rc s m w wr i o xs)
    (hbk : ∀ (b : Nat) (cs : Array Value) (m : Nat × Nat), wr.heap[b]? = some (Obj.cells cs 24 m) → w8.heap[b]? = some (Obj.cells cs 24 m)) (hs8 : wr.heap.size ≤ w8.heap.size) (hlow : Below B w w8) (ht : TP w8 (fun b => b < B0 ∨ wr.heap.size ≤ b) (ch i) (.agg #[a0, a1, a2, a3])) (hown : w9.ownsRow lo 24 4 (.slice (some ⟨g', 0, none⟩) (i + 1) cap') (i + 1) (xs ++ [a0, a1, a2, a3]))
    (hg : w8.grownBy w9 o.ownBlock) (hat : o.ownBlock = some g' ∨ g' = w8.heap.size) (him : i < m) :
    BldI ch B0 B tb rb ob lo tc rc s m w (w9.setCell ⟨ob, 3, none⟩ (.slice (some ⟨g', 0, none⟩) (i + 1) cap')) (i + 1) (.slice (some ⟨g', 0, none⟩) (i + 1) cap') (xs ++ [a0, a1, a2, a3]) := by
  obtain ⟨Ga, Gb, Gc, Gd, Ge, Gf, Gg, Gh, Gi⟩ := G
  have hol := h.own.lt
  have hg3 : lo ≤ g' := (hown.lt g' rfl).1
  have ho2 := heap_lt h.ob
  have ht2 := heap_lt h.tb
  have hr2 := heap_lt h.rb
  have hl : xs.length = 4 * i := by have := own_len h.own; omega
  have keep : ∀ (b : Nat) (cs : Array Value) (f : Nat × Nat), wr.heap[b]? = some (.cells cs 24 f) → some b ≠ o.ownBlock → b ≠ ob → (w9.setCell ⟨ob, 3, none⟩ (.slice (some ⟨g', 0, none⟩) (i + 1) cap')).heap[b]? = some (.cells cs 24 f) := fun b cs f hh hne h2 => by
    have hl := heap_lt hh
    rw [Below.heap_setCell _ _ _ b h2, hg.block b (by omega) hne, hbk b cs f hh]
  have far : ∀ b, b < lo → some b ≠ o.ownBlock := fun b hb' e => by have := (hol b e.symm).1; omega
  have hob9 : w9.heap[ob]? = some (.cells #[.int .i64 4, .int .i64 0, .string s, o] 24 (0, 0)) := by
    rw [hg.block _ (by omega) (far _ (by omega))]
    exact hbk _ _ _ h.ob
  refine ⟨keep _ _ _ h.tb (far _ (by omega)) (by omega), keep _ _ _ h.rb (far _ (by omega)) (by omega), by simpa using blk_set hob9 3 (.slice (some ⟨g', 0, none⟩) (i + 1) cap'), own_keep hown fun g hg' => Below.heap_setCell _ _ _ _ ?_, fun q hq => ?_, him, ?_, by have := h.lw; have := hg.size; simp; omega⟩
  · simp [Value.ownBlock] at hg'
    show g ≠ ob
    omega
  · by_cases hqi : q = i
    · subst hqi
      have key : ∀ j, (xs ++ [a0, a1, a2, a3])[4 * q + j]? = [a0, a1, a2, a3][j]? := fun j => by
        rw [List.getElem?_append_right (by omega), hl]
        congr 1
        omega
      refine ⟨a0, a1, a2, a3, by simpa using key 0, by simpa using key 1, by simpa using key 2, by simpa using key 3, ht.keep fun b cs f hS hh => ?_⟩
      have hl8 := heap_lt hh
      have hne : some b ≠ o.ownBlock := fun e => by
        have := hol b e.symm
        rcases hS with hS | hS <;> omega
      have hb2 : b ≠ ob := by rcases hS with hS | hS <;> omega
      refine ⟨by rw [Below.heap_setCell _ _ _ b hb2, hg.block b hl8 hne, hh], ?_⟩
      rcases hS with hS | hS
      · exact .inl hS
      · refine .inr ⟨by have := h.lw; omega, ?_⟩
        · rcases hat with e | e
          · rw [e] at hne; simpa [Value.ownBlock] using hne
          · simp [Value.ownBlock]; omega
    · obtain ⟨v0, v1, v2, v3, c0, c1, c2, c3, ht'⟩ := h.tp q (by omega)
      have key : ∀ j, j < 4 → (xs ++ [a0, a1, a2, a3])[4 * q + j]? = xs[4 * q + j]? := fun j hj => List.getElem?_append_left (by omega)
      refine ⟨v0, v1, v2, v3, (key 0 (by omega)).trans c0, (key 1 (by omega)).trans c1, (key 2 (by omega)).trans c2, (key 3 (by omega)).trans c3, ht'.keep fun b cs f hS hh => ?_⟩
      have hlr := heap_lt hh
      have hne : some b ≠ o.ownBlock := by
        rcases hS with hS | hS
        · exact far b (by omega)
        · exact hS.2
      refine ⟨keep b _ _ hh hne (by rcases hS with hS | hS <;> omega), ?_⟩
      rcases hS with hS | hS
      · exact .inl hS
      · refine .inr ⟨hS.1, ?_⟩
        rcases hat with e | e
        · rw [e] at hne; simpa [Value.ownBlock] using hne
        · simp [Value.ownBlock]; omega
  · have hBs := h.low.size
    exact (hlow.grown hg (by omega) fun k hk => by have := (hol k hk).1; omega).setCell (p := ⟨ob, 3, none⟩) Gd _
/-- The result box, written with what was built. -/
theorem BldI.done {ch : Nat → T} {B0 B tb rb ob lo : Nat} {tc : Array Value} {s : ByteArray} {m : Nat} {w wr : World} {xs : List Value} {A : Option Addr} {c : Nat} {u0 u1 u2 u3 : Value} (G : Geo B0 B tb rb ob lo) (h : BldI ch B0 B tb rb ob lo tc #[u0, u1, u2, u3] s m w wr m (.slice A m c) xs)
    {W : World} (hW : W = ((((wr.setCell ⟨rb, 0, none⟩ (.int .i64 4)).setCell ⟨rb, 1, none⟩ (.int .i64 0)).setCell ⟨rb, 2, none⟩ (.string s)).setCell ⟨rb, 3, none⟩ (.slice A m c))) :
    W.heap[rb]? = some (.cells #[.int .i64 4, .int .i64 0, .string s, .slice A m c] 24 (0, 0)) ∧ TP W (fun b => b < B0 ∨ B ≤ b) (.mk 4 0 s m ch) (.agg #[.int .i64 4, .int .i64 0, .string s, .slice A m c]) ∧ Below B w W := by
  obtain ⟨Ga, Gb, Gc, Gd, Ge, Gf, Gg, Gh, Gi⟩ := G
  obtain ⟨OA, oc, e, hoc, hoA, _, hox⟩ := own_open h.own
  injection e with e1 e2 e3
  subst e1; subst e3
  have P := box_put4 h.rb (.int .i64 4) (.int .i64 0) (.string s) (.slice A m c) hW.symm
  refine ⟨P.1, ⟨A, c, rfl, hoc, hoA, fun hm0 => ?_⟩, P.2.2.2 _ _ Gc h.low⟩
  obtain ⟨g0, cur, rfl, hg3, hh, hcur⟩ := hox hm0
  refine ⟨g0, cur, (0, 0), rfl, .inr (by omega), (P.2.2.1 g0 (by omega)).trans hh, fun q hq => ?_⟩
  obtain ⟨v0, v1, v2, v3, c0, c1, c2, c3, ht⟩ := h.tp q hq
  refine ⟨v0, v1, v2, v3, (hcur _ (by omega)).trans c0, (hcur _ (by omega)).trans c1, (hcur _ (by omega)).trans c2, (hcur _ (by omega)).trans c3, ht.keep fun b cs f hS hh' => ⟨(P.2.2.1 b (by rcases hS with hS | hS <;> omega)).trans hh', ?_⟩⟩
  rcases hS with hS | hS
  · exact .inl hS
  · exact .inr (by omega)
theorem BldI.doneL {ch : Nat → T} {B0 B tb rb ob lo : Nat} {tc : Array Value} {s : ByteArray} {m : Nat} {w wr : World} {xs : List Value} {A : Option Addr} {c : Nat} {u0 u1 u2 u3 : Value} (G : Geo B0 B tb rb ob lo) (h : BldI ch B0 B tb rb ob lo tc #[u0, u1, u2, u3] s m w wr m (.slice A m c) xs)
    {W : World} (hW : W = ((((wr.setCell ⟨rb, 0, none⟩ (.int .i64 4)).setCell ⟨rb, 1, none⟩ (.int .i64 0)).setCell ⟨rb, 2, none⟩ (.string s)).setCell ⟨rb, 3, none⟩ (.slice A m c))) :
    W.heap[rb]? = some (.cells #[.int .i64 4, .int .i64 0, .string s, .slice A m c] 24 (0, 0)) ∧ TP W (fun b => b < B0 ∨ lo ≤ b) (.mk 4 0 s m ch) (.agg #[.int .i64 4, .int .i64 0, .string s, .slice A m c]) ∧ Below B w W := by
  obtain ⟨Ga, Gb, Gc, Gd, Ge, Gf, Gg, Gh, Gi⟩ := G
  obtain ⟨OA, oc, e, hoc, hoA, _, hox⟩ := own_open h.own
  injection e with e1 e2 e3
  subst e1; subst e3
  have P := box_put4 h.rb (.int .i64 4) (.int .i64 0) (.string s) (.slice A m c) hW.symm
  refine ⟨P.1, ⟨A, c, rfl, hoc, hoA, fun hm0 => ?_⟩, P.2.2.2 _ _ Gc h.low⟩
  obtain ⟨g0, cur, rfl, hg3, hh, hcur⟩ := hox hm0
  refine ⟨g0, cur, (0, 0), rfl, .inr (by omega), (P.2.2.1 g0 (by omega)).trans hh, fun q hq => ?_⟩
  obtain ⟨v0, v1, v2, v3, c0, c1, c2, c3, ht⟩ := h.tp q hq
  refine ⟨v0, v1, v2, v3, (hcur _ (by omega)).trans c0, (hcur _ (by omega)).trans c1, (hcur _ (by omega)).trans c2, (hcur _ (by omega)).trans c3, ht.keep fun b cs f hS hh' => ⟨(P.2.2.1 b (by rcases hS with hS | hS <;> omega)).trans hh', ?_⟩⟩
  rcases hS with hS | hS
  · exact .inl hS
  · exact .inr (by omega)
end Go.Proofs.YtlgeepjlnjlgdaaDoor
namespace Go.Proofs.YtlgeepjlnjlgdaaDoor
open Go.RowKit

/-- Instructions that may be read. -/
structure InsOk (l : List Ins) : Prop where
  few : l.length ≤ 20000
  num : ∀ x ∈ l, I64 x.a
  nm : ∀ x ∈ l, x.s.size ≤ 4096
/-- What 'term' hands back. -/
def RtP (l : List Ins) (f i : Nat) (w : World) (e : Ending) (w' : World) : Prop :=
  ∃ (v : Value) (r : Int) (t : T), e = .returned (.tuple #[v, .int .i64 r]) ∧ TP w' (fun b => w.heap.size ≤ b) t v ∧ Hid (match rdT l f i with | some (t', j) => t = t' ∧ r = (j : Int) | none => r = -1) ∧ Below w.heap.size w w'
theorem rtp_none {l : List Ins} {f i : Nat} {w w' : World} {v : Value} {t : T} (h : rdT l f i = none) (ht : TP w' (fun b => w.heap.size ≤ b) t v) (hb : Below w.heap.size w w') : RtP l f i w (.returned (.tuple #[v, .int .i64 (-1)])) w' := ⟨v, -1, t, rfl, ht, Lib.hid (by rw [h]), hb⟩
theorem rtp_some {l : List Ins} {f i j : Nat} {w w' : World} {v : Value} {t : T} (h : rdT l f i = some (t, j)) (ht : TP w' (fun b => w.heap.size ≤ b) t v) (hb : Below w.heap.size w w') : RtP l f i w (.returned (.tuple #[v, .int .i64 (j : Int)])) w' := ⟨v, j, t, rfl, ht, Lib.hid (by rw [h]; exact ⟨rfl, rfl⟩), hb⟩
theorem rd_end {l : List Ins} {f i : Nat} (h : l.length ≤ i) : rdT l f i = none := by
  cases f with
  | zero => rfl
  | succ f => unfold rdT; rw [List.getElem?_eq_none h]
theorem rd_leaf {l : List Ins} {f i : Nat} {x : Ins} {t : T} (h : l[i]? = some x) (hl : leafI x = some t) : rdT l (f + 1) i = some (t, i + 1) := by
  unfold rdT; rw [h]; dsimp only; rw [hl]
theorem rd_no {l : List Ins} {f i : Nat} {x : Ins} (h : l[i]? = some x) (hl : leafI x = none) (h6 : x.o ≠ 6) : rdT l (f + 1) i = none := by
  unfold rdT; rw [h]; dsimp only; rw [hl]; dsimp only; rw [if_neg h6]
theorem rd_cmp {l : List Ins} {f i : Nat} {x : Ins} (h : l[i]? = some x) (h6 : x.o = 6) : rdT l (f + 1) i = (argsR (rdT l f) x.a.toNat [] (i + 1)).map fun p => (cmpT x.s p.1, p.2) := by
  have hl : leafI x = none := by unfold leafI; rw [if_neg (by omega), if_neg (by omega), if_neg (by omega)]
  rw [rdT, h]; dsimp only; rw [hl]; dsimp only; rw [if_pos h6]
theorem argsR_le {rd : Nat → Option (T × Nat)} {N : Nat} (h : ∀ i t j, rd i = some (t, j) → i < j ∧ j ≤ N) : ∀ {n : Nat} {acc r : List T} {i j : Nat}, i ≤ N → argsR rd n acc i = some (r, j) → i ≤ j ∧ j ≤ N
  | 0, acc, r, i, j, hi, he => by injection he with he; injection he with _ he; omega
  | n + 1, acc, r, i, j, hi, he => by
    unfold argsR at he
    cases hr : rd i with
    | none => rw [hr] at he; cases he
    | some p =>
      obtain ⟨t, q⟩ := p
      rw [hr] at he
      have h1 := h i t q hr
      have h2 := argsR_le h h1.2 he
      omega
theorem rd_le (l : List Ins) : ∀ (f i : Nat) (t : T) (j : Nat), rdT l f i = some (t, j) → i < j ∧ j ≤ l.length
  | 0, _, _, _, h => by cases h
  | f + 1, i, t, j, h => by
    unfold rdT at h
    cases hx : l[i]? with
    | none => rw [hx] at h; cases h
    | some x =>
      rw [hx] at h
      dsimp only at h
      have hi : i < l.length := by
        rcases Nat.lt_or_ge i l.length with h1 | h1
        · exact h1
        · rw [List.getElem?_eq_none h1] at hx; cases hx
      cases hl : leafI x with
      | some u =>
        rw [hl] at h
        injection h with h; injection h with h1 h2; omega
      | none =>
        rw [hl] at h
        dsimp only at h
        split at h
        · obtain ⟨⟨ts, q⟩, ha, he⟩ := Option.map_eq_some_iff.1 h
          injection he with h1 h2
          have := argsR_le (fun i t j h => rd_le l f i t j h) (show i + 1 ≤ l.length by omega) ha
          dsimp only at h2
          omega
        · cases h
theorem argsR_succ {rd : Nat → Option (T × Nat)} {n : Nat} {acc : List T} {i : Nat} : argsR rd (n + 1) acc i = match rd i with
    | none => none
    | some (t, j) => argsR rd n (acc ++ [t]) j := rfl
/-- What is still to be read of arguments. -/
def ArgK (rd : Nat → Option (T × Nat)) (n : Nat) (N : Nat) (ts : List T) (at_ : Int) (res : Option (List T × Nat)) : Prop :=
  (∃ j : Nat, at_ = (j : Int) ∧ j ≤ N ∧ ts.length ≤ n ∧ res = argsR rd (n - ts.length) ts j) ∨ (at_ = -1 ∧ res = none)
theorem BldI.ch {ch ch' : Nat → T} {B0 B tb rb ob lo : Nat} {tc rc : Array Value} {s : ByteArray} {m : Nat} {w wr : World} {i : Nat} {o : Value} {xs : List Value} (h : BldI ch B0 B tb rb ob lo tc rc s m w wr i o xs) (he : ∀ q, q < i → ch q = ch' q) {m' : Nat} (hm : i ≤ m') : BldI ch' B0 B tb rb ob lo tc rc s m' w wr i o xs :=
  ⟨h.tb, h.rb, h.ob, h.own, fun q hq => by rw [← he q hq]; exact h.tp q hq, hm, h.low, h.lw⟩
set_option maxRecDepth 100000 in
set_option maxHeartbeats 8000000 in
theorem rterm_any {l : List Ins} (hl : InsOk l) {B0 : Nat} {lv : Value} : ∀ (f : Nat), f ≤ 1000 → ∀ (i : Nat) (w : World), i ≤ 30000 → GRw w B0 lv l →
    Calls Tryd.prog 34 #[lv, .int .i64 (i : Int), .int .i64 ((1001 - f : Nat) : Int)] w fun e w' => RtP l f i w e w' := by
  intro f
  induction f with
  | zero =>
    intro _ i w hi hlv
    obtain ⟨A, c, rfl, _, _, _⟩ := hlv.all
    have BX := Lib.hid (belA (Below.refl w.heap.size w) (Obj.cells #[.int .i64 0, .int .i64 0, .string ⟨#[]⟩, .slice none 0 0] 24))
    clear hlv
    have hn : ¬ (i : Int) < 0 := by omega
    by_cases hil : (l.length : Int) ≤ (i : Int)
    all_goals
      go_enter Tryd.func34, Tryd.ntmps34
      go_wp2_with fail
      refine bodyPost_ret (v := .tuple #[.agg #[.int .i64 0, .int .i64 0, .string ⟨#[]⟩, .slice none 0 0], .int .i64 (-1)]) (by simp [results, go_sem]) rfl ?_
      exact rtp_none rfl (TP.leaf _ _ 0 0 ⟨#[]⟩) BX.out
  | succ f ih =>
    intro hf i w hi hlv
    obtain ⟨D, hD⟩ : ∃ D : Nat, D = 1001 - (f + 1) := ⟨_, rfl⟩
    have hD1 : ¬ (1000 : Int) < (D : Int) := by omega
    have HD2 := Lib.hid (show (D : Int) + 1 = ((1001 - f : Nat) : Int) by omega)
    have hD3 : D ≤ 1001 := by omega
    rw [← hD]
    clear hD
    have HLV := Lib.hid hlv
    have HL := Lib.hid hl
    have IH := Lib.hid (ih (by omega))
    have hn : ¬ (i : Int) < 0 := by omega
    have hfew := hl.few
    obtain ⟨A, c, rfl, _, _, _⟩ := hlv.all
    have BX := Lib.hid (belA (Below.refl w.heap.size w) (Obj.cells #[.int .i64 0, .int .i64 0, .string ⟨#[]⟩, .slice none 0 0] 24))
    clear hlv ih hl hf
    by_cases hil : l.length ≤ i
    · have hil' : (l.length : Int) ≤ (i : Int) := by omega
      have HE := Lib.hid (rd_end (f := f + 1) hil)
      go_enter Tryd.func34, Tryd.ntmps34
      go_wp2_with fail
      refine bodyPost_ret (v := .tuple #[.agg #[.int .i64 0, .int .i64 0, .string ⟨#[]⟩, .slice none 0 0], .int .i64 (-1)]) (by simp [results, go_sem]) rfl ?_
      exact rtp_none HE.out (TP.leaf _ _ 0 0 ⟨#[]⟩) BX.out
    have hil1 : i < l.length := by omega
    have hil' : ¬ (l.length : Int) ≤ (i : Int) := by omega
    have hil2 : (i : Int) < (l.length : Int) := by omega
    obtain ⟨g, og, rfl, hgl, hcell⟩ := grow HLV.out rfl hil1
    obtain ⟨x, hx⟩ : ∃ x, l[i]'hil1 = x := ⟨_, rfl⟩
    rw [hx] at hcell
    have d0 := hcell 0 (by omega)
    have d1 := hcell 1 (by omega)
    have d2 := hcell 2 (by omega)
    simp [Ins.cells] at d0 d1 d2
    have HX := Lib.hid (show l[i]? = some x by rw [List.getElem?_eq_getElem hil1, hx])
    have hxa : I64 x.a := by rw [← hx]; exact HL.out.num _ (List.getElem_mem hil1)
    have BY := Lib.hid (belA BX.out (Obj.cells #[.int .i64 x.o, .int .i64 x.a, .string x.s] 50))
    have HW1 := Lib.hid (show (i : Int) + 1 = ((i + 1 : Nat) : Int) by omega)
    clear hcell hx
    have HB0 := Lib.hid (show ((w.alloc (Obj.cells #[.int .i64 0, .int .i64 0, .string ⟨#[]⟩, .slice none 0 0] 24)).alloc (Obj.cells #[.int .i64 x.o, .int .i64 x.a, .string x.s] 50)).heap[w.heap.size]? = some (.cells #[.int .i64 0, .int .i64 0, .string ⟨#[]⟩, .slice none 0 0] 24 (0, 0)) from (Below.heap_alloc _ _ _ (by simp)).trans (heap_alloc_new w _))
    by_cases h2 : x.o = 2
    · have HE := Lib.hid (rd_leaf (f := f) HX.out (show leafI x = some (vrT x.a) by unfold leafI; rw [if_pos (.inl h2)]))
      have h' : (x.o == 2) = true := by simpa using h2
      go_enter Tryd.func34, Tryd.ntmps34
      go_wp2_with fail
      rw [HW1.out]
      refine bodyPost_ret (v := .tuple #[.agg #[.int .i64 1, .int .i64 x.a, .string ⟨#[]⟩, .slice none 0 0], .int .i64 ((i + 1 : Nat) : Int)]) (by simp [results, go_sem]) rfl ?_
      exact rtp_some HE.out (TP.leaf _ _ 1 x.a ⟨#[]⟩) (belA (belA (Below.refl _ _) _) _)
    by_cases h3 : x.o = 3
    · have HE := Lib.hid (rd_leaf (f := f) HX.out (show leafI x = some (vrT x.a) by unfold leafI; rw [if_pos (.inr h3)]))
      have h' : (x.o == 3) = true := by simpa using h3
      have e2 : (x.o == 2) = false := by simp; omega
      go_enter Tryd.func34, Tryd.ntmps34
      go_wp2_with fail
      rw [HW1.out]
      refine bodyPost_ret (v := .tuple #[.agg #[.int .i64 1, .int .i64 x.a, .string ⟨#[]⟩, .slice none 0 0], .int .i64 ((i + 1 : Nat) : Int)]) (by simp [results, go_sem]) rfl ?_
      exact rtp_some HE.out (TP.leaf _ _ 1 x.a ⟨#[]⟩) (belA (belA (Below.refl _ _) _) _)
    by_cases h4 : x.o = 4
    · have HE := Lib.hid (rd_leaf (f := f) HX.out (show leafI x = some (inT x.a) by unfold leafI; rw [if_neg (by omega), if_pos h4]))
      have h' : (x.o == 4) = true := by simpa using h4
      have e2 : (x.o == 2) = false := by simp; omega
      have e3 : (x.o == 3) = false := by simp; omega
      go_enter Tryd.func34, Tryd.ntmps34
      go_wp2_with fail
      rw [HW1.out]
      refine bodyPost_ret (v := .tuple #[.agg #[.int .i64 2, .int .i64 x.a, .string ⟨#[]⟩, .slice none 0 0], .int .i64 ((i + 1 : Nat) : Int)]) (by simp [results, go_sem]) rfl ?_
      exact rtp_some HE.out (TP.leaf _ _ 2 x.a ⟨#[]⟩) (belA (belA (Below.refl _ _) _) _)
    by_cases h5 : x.o = 5
    · have HE := Lib.hid (rd_leaf (f := f) HX.out (show leafI x = some (atT x.s) by unfold leafI; rw [if_neg (by omega), if_neg (by omega), if_pos h5]))
      have h' : (x.o == 5) = true := by simpa using h5
      have e2 : (x.o == 2) = false := by simp; omega
      have e3 : (x.o == 3) = false := by simp; omega
      have e4 : (x.o == 4) = false := by simp; omega
      go_enter Tryd.func34, Tryd.ntmps34
      go_wp2_with fail
      rw [HW1.out]
      refine bodyPost_ret (v := .tuple #[.agg #[.int .i64 3, .int .i64 0, .string x.s, .slice none 0 0], .int .i64 ((i + 1 : Nat) : Int)]) (by simp [results, go_sem]) rfl ?_
      exact rtp_some HE.out (TP.leaf _ _ 3 0 x.s) (belA (belA (Below.refl _ _) _) _)
    by_cases h6 : x.o = 6
    · have HC := Lib.hid (rd_cmp (f := f) HX.out h6)
      rw [h6] at d0 BY HB0
      have H6 := Lib.hid h6
      clear h6 h2 h3 h4 h5
      have hxa1 := hxa.1
      have hxa2 := hxa.2
      obtain ⟨item, ji1, ji2, ji3, ji4⟩ := elTerm.hi
      have hgeo := Lib.hid (show Geo 0 w.heap.size w.heap.size w.heap.size (w.heap.size + 2) (w.heap.size + 3) from ⟨by omega, by omega, by omega, by omega, by omega, by omega, by omega, by omega, by omega⟩)
      have HB3 := Lib.hid (show BldI (fun k => ([] : List T).getD k .nil) 0 w.heap.size w.heap.size w.heap.size (w.heap.size + 2) (w.heap.size + 3) #[.int .i64 0, .int .i64 0, .string ⟨#[]⟩, .slice none 0 0] #[.int .i64 0, .int .i64 0, .string ⟨#[]⟩, .slice none 0 0] x.s 0 w
        (((w.alloc (Obj.cells #[.int .i64 0, .int .i64 0, .string ⟨#[]⟩, .slice none 0 0] 24)).alloc (Obj.cells #[.int .i64 6, .int .i64 x.a, .string x.s] 50)).alloc (Obj.cells #[.int .i64 4, .int .i64 0, .string x.s, .slice none 0 0] 24)) 0 (.slice none 0 0) [] from
        ⟨(Below.heap_alloc _ _ _ (by simp; omega)).trans HB0.out, (Below.heap_alloc _ _ _ (by simp; omega)).trans HB0.out, heap_at _ _ (by simp), World.ownsRow_nil _ _ _ _, fun q h => absurd h (by omega), Nat.le_refl _, belA BY.out _, by simp⟩)
      have HI3 := Lib.hid (show (((w.alloc (Obj.cells #[.int .i64 0, .int .i64 0, .string ⟨#[]⟩, .slice none 0 0] 24)).alloc (Obj.cells #[.int .i64 6, .int .i64 x.a, .string x.s] 50)).alloc (Obj.cells #[.int .i64 4, .int .i64 0, .string x.s, .slice none 0 0] 24)).heap[w.heap.size + 1]? = some (.cells #[.int .i64 6, .int .i64 x.a, .string x.s] 50 (0, 0)) from (Below.heap_alloc _ _ _ (by simp)).trans (heap_at _ _ (by simp)))
      go_enter Tryd.func34, Tryd.ntmps34
      go_wp2_with fail
      go_loopw [1, 10] (fun av iv wr => ∃ (at_ : Int) (ts : List T) (o : Value) (xs : List Value), av = .int .i64 at_ ∧ iv = .int .i64 (ts.length : Int) ∧ -1 ≤ at_ ∧ at_ ≤ 20000 ∧ ts.length ≤ 20001 ∧ BldI (fun k => ts.getD k .nil) 0 w.heap.size w.heap.size w.heap.size (w.heap.size + 2) (w.heap.size + 3) #[.int .i64 0, .int .i64 0, .string ⟨#[]⟩, .slice none 0 0] #[.int .i64 0, .int .i64 0, .string ⟨#[]⟩, .slice none 0 0] x.s ts.length w wr ts.length o xs ∧
        wr.heap[w.heap.size + 1]? = some (.cells #[.int .i64 6, .int .i64 x.a, .string x.s] 50 (0, 0)) ∧ Hid (ArgK (rdT l f) x.a.toNat l.length ts at_ (argsR (rdT l f) x.a.toNat [] (i + 1)) ∧ (0 ≤ at_ → (ts.length : Int) ≤ at_))) (fun av _ _ => if 0 ≤ intOf av then (20002 - intOf av).toNat else 0)
      case atStart => exact ⟨(i : Int) + 1, [], .slice none 0 0, [], by first | rfl | (congr 1; omega), rfl, by omega, by omega, by simp, HB3.out, HI3.out, Lib.hid ⟨.inl ⟨i + 1, by omega, by omega, Nat.zero_le _, rfl⟩, fun _ => by simp; omega⟩⟩
      case round =>
        clear HB3 HI3
        obtain ⟨at_, ts, o, xs, rfl, rfl, ha1, ha2, hts, hbl, hins, hK⟩ := hrel
        obtain ⟨q, hq⟩ : ∃ q, q = ts.length := ⟨_, rfl⟩
        have HQ := Lib.hid hq
        rw [← hq] at hbl hts ⊢
        obtain ⟨oA, oc, rfl, hoc, hoA, _, _⟩ := own_open hbl.own
        have BL := Lib.hid hbl
        have HI := Lib.hid hins
        obtain ⟨x0, x1, x2, x3⟩ := box4t hbl.ob
        have hobl := heap_lt hbl.ob
        have y1 := cell_of_row wr (w.heap.size + 1) 1 _ _ _ hins
        have zf : ∀ j, wr.frozen? ⟨w.heap.size + 2, j, none⟩ = false := fun j => by simp [World.frozen?, hbl.ob]
        have hlw := hbl.lw
        have zr : ∀ j, wr.frozen? ⟨w.heap.size, j, none⟩ = false := fun j => by simp [World.frozen?, hbl.rb]
        obtain ⟨u0, u1, u2, u3⟩ := box4t hbl.rb
        have hrbl := heap_lt hbl.rb
        clear hbl hins hq hoA
        -- the end, for any way out of the loop
        have OUT := Lib.hid (show ∀ r : Int, r = at_ → (¬ ((q : Int) < x.a ∧ 0 ≤ at_)) → RtP l (f + 1) i w (.returned (.tuple #[.agg #[.int .i64 4, .int .i64 0, .string x.s, .slice oA q oc], .int .i64 r])) ((((wr.setCell ⟨w.heap.size, 0, none⟩ (.int .i64 4)).setCell ⟨w.heap.size, 1, none⟩ (.int .i64 0)).setCell ⟨w.heap.size, 2, none⟩ (.string x.s)).setCell ⟨w.heap.size, 3, none⟩ (.slice oA q oc)) from fun r hr hex => by
          obtain ⟨_, hT, hbw⟩ := (BL.out.ch (ch' := fun k => ts.getD k .nil) (fun _ _ => rfl) (Nat.le_refl _)).done hgeo.out rfl
          have hT2 := hT.more (S' := fun b => w.heap.size ≤ b) fun b hb => by omega
          have e : T.mk 4 0 x.s q (fun k => ts.getD k .nil) = cmpT x.s ts := by rw [HQ.out]; rfl
          rw [e] at hT2
          rcases hK.out.1 with ⟨j, h1, h2, h3, h4⟩ | ⟨h1, h2⟩
          · have hn : x.a.toNat - ts.length = 0 := by have := HQ.out; omega
            rw [hn] at h4
            rw [hr, h1]
            exact rtp_some (by rw [HC.out, h4]; rfl) hT2 hbw
          · rw [hr, h1]
            exact rtp_none (by rw [HC.out, h2]; rfl) hT2 hbw)
        by_cases hqa : (q : Int) < x.a
        · by_cases hat : 0 ≤ at_
          · obtain ⟨j, hj⟩ : ∃ j : Nat, at_ = (j : Int) := ⟨at_.toNat, by omega⟩
            subst hj
            have HJ := Lib.hid (show ∃ n', x.a.toNat - ts.length = n' + 1 from ⟨x.a.toNat - ts.length - 1, by have := HQ.out; omega⟩)
            have hwr := BL.out.low.size
            have BA := Lib.hid (Below.alloc (Below.refl wr.heap.size wr) (Nat.le_refl _) (Obj.cells #[.int .i64 0, .int .i64 0, .string ⟨#[]⟩, .slice none 0 0] 24))
            have CI := Lib.hid (IH.out j (wr.alloc (Obj.cells #[.int .i64 0, .int .i64 0, .string ⟨#[]⟩, .slice none 0 0] 24)) (by omega) (HLV.out.below (BL.out.low.trans (BA.out.mono hwr))))
            go_wp2_with fail
            rw [HD2.out]
            refine CI.out.mono ?_
            rintro e w5 ⟨v5, r5, t5, rfl, ht5, hm5, hb5⟩
            obtain ⟨k0, k1, k2, A0, m0, c0, rfl⟩ := ht5.agg
            have XA := Lib.hid ((hb5.block wr.heap.size (by simp)).trans (heap_alloc_new wr (Obj.cells #[.int .i64 0, .int .i64 0, .string ⟨#[]⟩, .slice none 0 0] 24)))
            have xf : ∀ j, w5.frozen? ⟨wr.heap.size, j, none⟩ = false := fun j => by simp [World.frozen?, XA.out]
            obtain ⟨v0, v1, v2, v3⟩ := box4t XA.out
            have hs5 : wr.heap.size + 1 ≤ w5.heap.size := by have := hb5.size; simpa using this
            have B5 := Lib.hid (BA.out.trans (hb5.mono (by simp)))
            have P := Lib.hid (box_put4 XA.out (.int .i64 k0) (.int .i64 k1) (.string k2) (.slice A0 m0 c0) rfl)
            have B6 := Lib.hid (P.out.2.2.2 wr.heap.size wr (Nat.le_refl _) B5.out)
            have HT6 := Lib.hid (tp_put XA.out (.int .i64 k0) (.int .i64 k1) (.string k2) (.slice A0 m0 c0) ht5 (fun b hb => by simp at hb; omega))
            obtain ⟨z0, z1, z2, z3⟩ := box4t P.out.1
            obtain ⟨_, _, _, z7⟩ := box4t ((B6.out.block (w.heap.size + 2) hobl).trans BL.out.ob)
            have HM5 := Lib.hid hm5
            clear ht5 hm5 hb5 CI x0 x1 x2 x3 y1 zf zr u0 u1 u2 u3
            go_wp2_with (at_builtin; go_must (refine wpList_append_lies _ rfl _ _ _ rfl (w.heap.size + 3) 24 item (.agg #[.int .i64 0, .int .i64 0, .string ⟨#[]⟩, .slice none 0 0]) 4 56 Tryd.underlying22 ji1 ji2 ji3 ji4 rfl (by omega) _ q _ rfl (own_below BL.out.own (B6.out.alloc (by simp; omega) _)) ⟨w5.heap.size, 0, none⟩ 1 1 [.int .i64 k0, .int .i64 k1, .string k2, .slice A0 m0 c0] rfl rfl ?_ ?_ (by omega) (by unfold maxLen; omega) (by omega) (by simp; omega) _ rfl ?_))
            · exact World.news_of_block (heap_at _ _ (by simp))
            · intro u hu
              simp only [List.mem_cons, List.not_mem_nil, or_false] at hu
              rcases hu with rfl | rfl | rfl | rfl <;> rfl
            intro g1 cap1 w9 hown1 hg1 hat1 _
            have hol := BL.out.own.lt
            have X9 := Lib.hid ((hg1.block (w.heap.size + 2) (by simp; omega) (fun e => by have := (hol _ e.symm).1; omega)).trans (((Below.alloc (Below.refl _ _) (Nat.le_refl _) (Obj.cells #[.int .i64 k0, .int .i64 k1, .string k2, .slice A0 m0 c0] 24)).block (w.heap.size + 2) (by simp; omega)).trans ((B6.out.block (w.heap.size + 2) hobl).trans BL.out.ob)))
            have I9 := Lib.hid ((hg1.block (w.heap.size + 1) (by simp; omega) (fun e => by have := (hol _ e.symm).1; omega)).trans (((Below.alloc (Below.refl _ _) (Nat.le_refl _) (Obj.cells #[.int .i64 k0, .int .i64 k1, .string k2, .slice A0 m0 c0] 24)).block (w.heap.size + 1) (by simp; omega)).trans ((B6.out.block (w.heap.size + 1) (by omega)).trans HI.out)))
            have y9 := cell_of_row w9 (w.heap.size + 1) 1 _ _ _ I9.out
            have zf9 : ∀ j, w9.frozen? ⟨w.heap.size + 2, j, none⟩ = false := fun j => by simp [World.frozen?, X9.out]
            obtain ⟨s0, s1, s2, s3⟩ := box4t X9.out
            have hob9 := heap_lt X9.out
            have BL2 := Lib.hid (BldI.push hgeo.out (BL.out.ch (ch' := fun k => (ts ++ [t5]).getD k .nil) (fun p hp => by
                have hp' : p < ts.length := by rw [← HQ.out]; exact hp
                simp [List.getD_eq_getElem?_getD, List.getElem?_append_left hp']) (m' := q + 1) (by omega)) (B6.out.alloc (by simp; omega) (Obj.cells #[.int .i64 k0, .int .i64 k1, .string k2, .slice A0 m0 c0] 24))
              (by
                have e : (ts ++ [t5]).getD q .nil = t5 := by
                  rw [HQ.out]; simp
                rw [e]
                exact (HT6.out.below (Below.alloc (Below.refl _ _) (Nat.le_refl _) _)).more fun b hb => .inr (by simp at hb; omega)) hown1 hg1 (hat1.imp id fun e => e.trans (by simp)) (by omega))
            have I10 := Lib.hid ((Below.heap_setCell w9 ⟨w.heap.size + 2, 3, none⟩ (.slice (some ⟨g1, 0, none⟩) (q + 1) cap1) (w.heap.size + 1) (by show w.heap.size + 1 ≠ w.heap.size + 2; omega)).trans I9.out)
            have KN := Lib.hid (show (ArgK (rdT l f) x.a.toNat l.length (ts ++ [t5]) r5 (argsR (rdT l f) x.a.toNat [] (i + 1)) ∧ (0 ≤ r5 → ((ts ++ [t5]).length : Int) ≤ r5)) ∧ -1 ≤ r5 ∧ r5 ≤ 20000 ∧ (0 ≤ r5 → (j : Int) < r5) by
              obtain ⟨n', hn'⟩ := HJ.out
              rcases hK.out.1 with ⟨j', h1, h2, h3, h4⟩ | ⟨h1, _⟩
              · obtain rfl : j = j' := by omega
                have hm := HM5.out
                have hlen : (ts ++ [t5]).length = ts.length + 1 := by simp
                have hfw := HL.out.few
                rw [hn'] at h4
                rw [argsR_succ] at h4
                cases hr : rdT l f j with
                | none =>
                  rw [hr] at hm h4
                  rw [hm]
                  exact ⟨⟨.inr ⟨rfl, h4⟩, fun h => absurd h (by decide)⟩, by omega, by omega, fun h => absurd h (by decide)⟩
                | some p =>
                  obtain ⟨t', j2⟩ := p
                  rw [hr] at hm h4
                  obtain ⟨rfl, rfl⟩ := hm
                  have hj2 := rd_le l f j t5 j2 hr
                  have h5 := hK.out.2 (by omega)
                  refine ⟨⟨.inl ⟨j2, rfl, hj2.2, by omega, ?_⟩, fun _ => by rw [hlen]; omega⟩, by omega, by omega, fun _ => by omega⟩
                  rw [show x.a.toNat - (ts ++ [t5]).length = n' by omega]
                  exact h4
              · omega)
            have hr5a : -1 ≤ r5 := KN.out.2.1
            have hr5b : r5 ≤ 20000 := KN.out.2.2.1
            have HQ1 := Lib.hid (show (q : Int) + 1 = ((ts ++ [t5]).length : Int) by rw [List.length_append, HQ.out]; simp)
            have hq1 : (ts ++ [t5]).length ≤ 20001 := by
              have h1 := HQ1.out
              have h5 : (ts.length : Int) ≤ (j : Int) := hK.out.2 (by omega)
              have := HQ.out
              omega
            clear hown1 hg1 hat1 z0 z1 z2 z3 z7
            go_wp2_with fail
            go_roundw
            case rel => exact ⟨r5, ts ++ [t5], _, _, rfl, by first | exact congrArg (Value.int .i64) HQ1.out | (have := HQ1.out; go_num), hr5a, hr5b, hq1, by rw [show (ts ++ [t5]).length = q + 1 by have := HQ1.out; omega]; exact BL2.out, I10.out, Lib.hid KN.out.1⟩
            case measure => (have h1 := KN.out.2.2.2; (show (if 0 ≤ r5 then (20002 - r5).toNat else 0) < (if (0 : Int) ≤ (j : Int) then (20002 - (j : Int)).toNat else 0)); rw [if_pos (show (0 : Int) ≤ (j : Int) by omega)]; rcases Int.lt_or_le r5 0 with h9 | h9; (rw [if_neg (by omega)]; omega); (rw [if_pos h9]; have := h1 h9; omega))
          · have hO := OUT.out at_ rfl (fun h => hat h.2)
            have OO := Lib.hid hO
            clear hO
            go_wp2_with fail
            obtain ⟨p0, p1, p2, p3⟩ := box4t (box_put4 BL.out.rb (.int .i64 4) (.int .i64 0) (.string x.s) (.slice oA q oc) rfl).1
            refine bodyPost_ret (v := .tuple #[.agg #[.int .i64 4, .int .i64 0, .string x.s, .slice oA q oc], .int .i64 at_]) (by simp [results, go_sem, p0, p1, p2, p3]) rfl ?_
            exact OO.out
        · have OO := Lib.hid (OUT.out at_ rfl (fun h => hqa h.1))
          go_wp2_with fail
          obtain ⟨p0, p1, p2, p3⟩ := box4t (box_put4 BL.out.rb (.int .i64 4) (.int .i64 0) (.string x.s) (.slice oA q oc) rfl).1
          refine bodyPost_ret (v := .tuple #[.agg #[.int .i64 4, .int .i64 0, .string x.s, .slice oA q oc], .int .i64 at_]) (by simp [results, go_sem, p0, p1, p2, p3]) rfl ?_
          exact OO.out
    · have HE := Lib.hid (rd_no (f := f) HX.out (show leafI x = none by unfold leafI; rw [if_neg (by omega), if_neg (by omega), if_neg (by omega)]) h6)
      have e2 : (x.o == 2) = false := by simp; omega
      have e3 : (x.o == 3) = false := by simp; omega
      have e4 : (x.o == 4) = false := by simp; omega
      have e5 : (x.o == 5) = false := by simp; omega
      have e6 : (x.o == 6) = false := by simp; omega
      go_enter Tryd.func34, Tryd.ntmps34
      go_wp2_with fail
      refine bodyPost_ret (v := .tuple #[.agg #[.int .i64 0, .int .i64 0, .string ⟨#[]⟩, .slice none 0 0], .int .i64 (-1)]) (by simp [results, go_sem]) rfl ?_
      exact rtp_none HE.out (TP.leaf _ _ 0 0 ⟨#[]⟩) (belA (belA (Below.refl _ _) _) _)
end Go.Proofs.YtlgeepjlnjlgdaaDoor
