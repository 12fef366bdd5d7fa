/- A compound term that is built, argument by argument, in a box of its own: what its loop keeps. -/
import Derived.Test.YtlgeepjlnjlgdaaGd
namespace Go.Proofs.Ytlgeepjlnjlgdaa
open Go.RowKit

/-- Where things lie: what is old lies below B0; the boxes: of the term, of the result, of what is built; the new row lies from lo on. -/
structure Geo (B0 B tb rb ob lo : Nat) : Prop where
  a : B0 ≤ B
  b : B ≤ tb
  c : B ≤ rb
  d : B ≤ ob
  e : tb < lo
  f : rb < lo
  g : ob < lo
  h : tb ≠ ob
  i : rb ≠ ob
structure BldI (ch : Nat → T) (B0 B tb rb ob lo : Nat) (tc rc : Array Value) (s : ByteArray) (m : Nat) (w wr : World) (i : Nat) (o : Value) (xs : List Value) : Prop where
  tb : wr.heap[tb]? = some (.cells tc 24 (0, 0))
  rb : wr.heap[rb]? = some (.cells rc 24 (0, 0))
  ob : wr.heap[ob]? = some (.cells #[.int .i64 4, .int .i64 0, .string s, o] 24 (0, 0))
  own : wr.ownsRow lo 24 4 o i xs
  tp : ∀ q, q < i → ∃ v0 v1 v2 v3, xs[4 * q]? = some v0 ∧ xs[4 * q + 1]? = some v1 ∧ xs[4 * q + 2]? = some v2 ∧ xs[4 * q + 3]? = some v3 ∧
    TP wr (fun b => b < B0 ∨ (lo ≤ b ∧ some b ≠ o.ownBlock)) (ch q) (.agg #[v0, v1, v2, v3])
  hi : i ≤ m
  low : Below B w wr
  lw : lo ≤ wr.heap.size
theorem BldI.push {ch : Nat → T} {B0 B tb rb ob lo : Nat} {tc rc : Array Value} {s : ByteArray} {m : Nat} {w wr w8 w9 : World} {i : Nat} {o : Value} {xs : List Value} {a0 a1 a2 a3 : Value} {g' cap' : Nat} (G : Geo B0 B tb rb ob lo) (h : BldI ch B0 B tb rb ob lo tc rc s m w wr i o xs)
    (hb : Below wr.heap.size wr w8) (ht : TP w8 (fun b => b < B0 ∨ wr.heap.size ≤ b) (ch i) (.agg #[a0, a1, a2, a3])) (hown : w9.ownsRow lo 24 4 (.slice (some ⟨g', 0, none⟩) (i + 1) cap') (i + 1) (xs ++ [a0, a1, a2, a3]))
    (hg : w8.grownBy w9 o.ownBlock) (hat : o.ownBlock = some g' ∨ g' = w8.heap.size) (him : i < m) :
    BldI ch B0 B tb rb ob lo tc rc s m w (w9.setCell ⟨ob, 3, none⟩ (.slice (some ⟨g', 0, none⟩) (i + 1) cap')) (i + 1) (.slice (some ⟨g', 0, none⟩) (i + 1) cap') (xs ++ [a0, a1, a2, a3]) := by
  obtain ⟨Ga, Gb, Gc, Gd, Ge, Gf, Gg, Gh, Gi⟩ := G
  have hol := h.own.lt
  have hg3 : lo ≤ g' := (hown.lt g' rfl).1
  have ho2 := heap_lt h.ob
  have ht2 := heap_lt h.tb
  have hr2 := heap_lt h.rb
  have hs8 := hb.size
  have hl : xs.length = 4 * i := by have := own_len h.own; omega
  have keep : ∀ (b : Nat) (o' : Obj), wr.heap[b]? = some o' → some b ≠ o.ownBlock → b ≠ ob → (w9.setCell ⟨ob, 3, none⟩ (.slice (some ⟨g', 0, none⟩) (i + 1) cap')).heap[b]? = some o' := fun b o' hh hne h2 => by
    have hl := heap_lt hh
    rw [Below.heap_setCell _ _ _ b h2, hg.block b (by omega) hne, hb.block b hl, hh]
  have far : ∀ b, b < lo → some b ≠ o.ownBlock := fun b hb' e => by have := (hol b e.symm).1; omega
  have hob9 : w9.heap[ob]? = some (.cells #[.int .i64 4, .int .i64 0, .string s, o] 24 (0, 0)) := by
    rw [hg.block _ (by omega) (far _ (by omega)), hb.block _ ho2, h.ob]
  refine ⟨keep _ _ h.tb (far _ (by omega)) (by omega), keep _ _ h.rb (far _ (by omega)) (by omega), by simpa using blk_set hob9 3 (.slice (some ⟨g', 0, none⟩) (i + 1) cap'), own_keep hown fun g hg' => Below.heap_setCell _ _ _ _ ?_, fun q hq => ?_, him, ?_, by have := h.lw; have := hg.size; simp; omega⟩
  · simp [Value.ownBlock] at hg'
    show g ≠ ob
    omega
  · by_cases hqi : q = i
    · subst hqi
      have key : ∀ j, (xs ++ [a0, a1, a2, a3])[4 * q + j]? = [a0, a1, a2, a3][j]? := fun j => by
        rw [List.getElem?_append_right (by omega), hl]
        congr 1
        omega
      refine ⟨a0, a1, a2, a3, by simpa using key 0, by simpa using key 1, by simpa using key 2, by simpa using key 3, ht.keep fun b cs f hS hh => ?_⟩
      have hl8 := heap_lt hh
      have hne : some b ≠ o.ownBlock := fun e => by
        have := hol b e.symm
        rcases hS with hS | hS <;> omega
      have hb2 : b ≠ ob := by rcases hS with hS | hS <;> omega
      refine ⟨by rw [Below.heap_setCell _ _ _ b hb2, hg.block b hl8 hne, hh], ?_⟩
      rcases hS with hS | hS
      · exact .inl hS
      · refine .inr ⟨by have := h.lw; omega, ?_⟩
        · rcases hat with e | e
          · rw [e] at hne; simpa [Value.ownBlock] using hne
          · simp [Value.ownBlock]; omega
    · obtain ⟨v0, v1, v2, v3, c0, c1, c2, c3, ht'⟩ := h.tp q (by omega)
      have key : ∀ j, j < 4 → (xs ++ [a0, a1, a2, a3])[4 * q + j]? = xs[4 * q + j]? := fun j hj => List.getElem?_append_left (by omega)
      refine ⟨v0, v1, v2, v3, (key 0 (by omega)).trans c0, (key 1 (by omega)).trans c1, (key 2 (by omega)).trans c2, (key 3 (by omega)).trans c3, ht'.keep fun b cs f hS hh => ?_⟩
      have hlr := heap_lt hh
      have hne : some b ≠ o.ownBlock := by
        rcases hS with hS | hS
        · exact far b (by omega)
        · exact hS.2
      refine ⟨keep b _ hh hne (by rcases hS with hS | hS <;> omega), ?_⟩
      rcases hS with hS | hS
      · exact .inl hS
      · refine .inr ⟨hS.1, ?_⟩
        rcases hat with e | e
        · rw [e] at hne; simpa [Value.ownBlock] using hne
        · simp [Value.ownBlock]; omega
  · have hBs := h.low.size
    exact ((h.low.trans (hb.mono (by omega))).grown hg (by omega) fun k hk => by have := (hol k hk).1; omega).setCell (p := ⟨ob, 3, none⟩) Gd _
theorem BldI.pushK {ch : Nat → T} {B0 B tb rb ob lo : Nat} {tc rc : Array Value} {s : ByteArray} {m : Nat} {w wr w8 w9 : World} {i : Nat} {o : Value} {xs : List Value} {a0 a1 a2 a3 : Value} {g' cap' : Nat} (G : Geo B0 B tb rb ob lo) (h : BldI ch B0 B tb rb ob lo tc rc s m w wr i o xs)
    (hbk : ∀ (b : Nat) (cs : Array Value) (m : Nat × Nat), wr.heap[b]? = some (Obj.cells cs 24 m) → w8.heap[b]? = some (Obj.cells cs 24 m)) (hs8 : wr.heap.size ≤ w8.heap.size) (hlow : Below B w w8) (ht : TP w8 (fun b => b < B0 ∨ wr.heap.size ≤ b) (ch i) (.agg #[a0, a1, a2, a3])) (hown : w9.ownsRow lo 24 4 (.slice (some ⟨g', 0, none⟩) (i + 1) cap') (i + 1) (xs ++ [a0, a1, a2, a3]))
    (hg : w8.grownBy w9 o.ownBlock) (hat : o.ownBlock = some g' ∨ g' = w8.heap.size) (him : i < m) :
    BldI ch B0 B tb rb ob lo tc rc s m w (w9.setCell ⟨ob, 3, none⟩ (.slice (some ⟨g', 0, none⟩) (i + 1) cap')) (i + 1) (.slice (some ⟨g', 0, none⟩) (i + 1) cap') (xs ++ [a0, a1, a2, a3]) := by
  obtain ⟨Ga, Gb, Gc, Gd, Ge, Gf, Gg, Gh, Gi⟩ := G
  have hol := h.own.lt
  have hg3 : lo ≤ g' := (hown.lt g' rfl).1
  have ho2 := heap_lt h.ob
  have ht2 := heap_lt h.tb
  have hr2 := heap_lt h.rb
  have hl : xs.length = 4 * i := by have := own_len h.own; omega
  have keep : ∀ (b : Nat) (cs : Array Value) (f : Nat × Nat), wr.heap[b]? = some (.cells cs 24 f) → some b ≠ o.ownBlock → b ≠ ob → (w9.setCell ⟨ob, 3, none⟩ (.slice (some ⟨g', 0, none⟩) (i + 1) cap')).heap[b]? = some (.cells cs 24 f) := fun b cs f hh hne h2 => by
    have hl := heap_lt hh
    rw [Below.heap_setCell _ _ _ b h2, hg.block b (by omega) hne, hbk b cs f hh]
  have far : ∀ b, b < lo → some b ≠ o.ownBlock := fun b hb' e => by have := (hol b e.symm).1; omega
  have hob9 : w9.heap[ob]? = some (.cells #[.int .i64 4, .int .i64 0, .string s, o] 24 (0, 0)) := by
    rw [hg.block _ (by omega) (far _ (by omega))]
    exact hbk _ _ _ h.ob
  refine ⟨keep _ _ _ h.tb (far _ (by omega)) (by omega), keep _ _ _ h.rb (far _ (by omega)) (by omega), by simpa using blk_set hob9 3 (.slice (some ⟨g', 0, none⟩) (i + 1) cap'), own_keep hown fun g hg' => Below.heap_setCell _ _ _ _ ?_, fun q hq => ?_, him, ?_, by have := h.lw; have := hg.size; simp; omega⟩
  · simp [Value.ownBlock] at hg'
    show g ≠ ob
    omega
  · by_cases hqi : q = i
    · subst hqi
      have key : ∀ j, (xs ++ [a0, a1, a2, a3])[4 * q + j]? = [a0, a1, a2, a3][j]? := fun j => by
        rw [List.getElem?_append_right (by omega), hl]
        congr 1
        omega
      refine ⟨a0, a1, a2, a3, by simpa using key 0, by simpa using key 1, by simpa using key 2, by simpa using key 3, ht.keep fun b cs f hS hh => ?_⟩
      have hl8 := heap_lt hh
      have hne : some b ≠ o.ownBlock := fun e => by
        have := hol b e.symm
        rcases hS with hS | hS <;> omega
      have hb2 : b ≠ ob := by rcases hS with hS | hS <;> omega
      refine ⟨by rw [Below.heap_setCell _ _ _ b hb2, hg.block b hl8 hne, hh], ?_⟩
      rcases hS with hS | hS
      · exact .inl hS
      · refine .inr ⟨by have := h.lw; omega, ?_⟩
        · rcases hat with e | e
          · rw [e] at hne; simpa [Value.ownBlock] using hne
          · simp [Value.ownBlock]; omega
    · obtain ⟨v0, v1, v2, v3, c0, c1, c2, c3, ht'⟩ := h.tp q (by omega)
      have key : ∀ j, j < 4 → (xs ++ [a0, a1, a2, a3])[4 * q + j]? = xs[4 * q + j]? := fun j hj => List.getElem?_append_left (by omega)
      refine ⟨v0, v1, v2, v3, (key 0 (by omega)).trans c0, (key 1 (by omega)).trans c1, (key 2 (by omega)).trans c2, (key 3 (by omega)).trans c3, ht'.keep fun b cs f hS hh => ?_⟩
      have hlr := heap_lt hh
      have hne : some b ≠ o.ownBlock := by
        rcases hS with hS | hS
        · exact far b (by omega)
        · exact hS.2
      refine ⟨keep b _ _ hh hne (by rcases hS with hS | hS <;> omega), ?_⟩
      rcases hS with hS | hS
      · exact .inl hS
      · refine .inr ⟨hS.1, ?_⟩
        rcases hat with e | e
        · rw [e] at hne; simpa [Value.ownBlock] using hne
        · simp [Value.ownBlock]; omega
  · have hBs := h.low.size
    exact (hlow.grown hg (by omega) fun k hk => by have := (hol k hk).1; omega).setCell (p := ⟨ob, 3, none⟩) Gd _
/-- The result box, written with what was built. -/
theorem BldI.done {ch : Nat → T} {B0 B tb rb ob lo : Nat} {tc : Array Value} {s : ByteArray} {m : Nat} {w wr : World} {xs : List Value} {A : Option Addr} {c : Nat} {u0 u1 u2 u3 : Value} (G : Geo B0 B tb rb ob lo) (h : BldI ch B0 B tb rb ob lo tc #[u0, u1, u2, u3] s m w wr m (.slice A m c) xs)
    {W : World} (hW : W = ((((wr.setCell ⟨rb, 0, none⟩ (.int .i64 4)).setCell ⟨rb, 1, none⟩ (.int .i64 0)).setCell ⟨rb, 2, none⟩ (.string s)).setCell ⟨rb, 3, none⟩ (.slice A m c))) :
    W.heap[rb]? = some (.cells #[.int .i64 4, .int .i64 0, .string s, .slice A m c] 24 (0, 0)) ∧ TP W (fun b => b < B0 ∨ B ≤ b) (.mk 4 0 s m ch) (.agg #[.int .i64 4, .int .i64 0, .string s, .slice A m c]) ∧ Below B w W := by
  obtain ⟨Ga, Gb, Gc, Gd, Ge, Gf, Gg, Gh, Gi⟩ := G
  obtain ⟨OA, oc, e, hoc, hoA, _, hox⟩ := own_open h.own
  injection e with e1 e2 e3
  subst e1; subst e3
  have P := box_put4 h.rb (.int .i64 4) (.int .i64 0) (.string s) (.slice A m c) hW.symm
  refine ⟨P.1, ⟨A, c, rfl, hoc, hoA, fun hm0 => ?_⟩, P.2.2.2 _ _ Gc h.low⟩
  obtain ⟨g0, cur, rfl, hg3, hh, hcur⟩ := hox hm0
  refine ⟨g0, cur, (0, 0), rfl, .inr (by omega), (P.2.2.1 g0 (by omega)).trans hh, fun q hq => ?_⟩
  obtain ⟨v0, v1, v2, v3, c0, c1, c2, c3, ht⟩ := h.tp q hq
  refine ⟨v0, v1, v2, v3, (hcur _ (by omega)).trans c0, (hcur _ (by omega)).trans c1, (hcur _ (by omega)).trans c2, (hcur _ (by omega)).trans c3, ht.keep fun b cs f hS hh' => ⟨(P.2.2.1 b (by rcases hS with hS | hS <;> omega)).trans hh', ?_⟩⟩
  rcases hS with hS | hS
  · exact .inl hS
  · exact .inr (by omega)
theorem BldI.doneL {ch : Nat → T} {B0 B tb rb ob lo : Nat} {tc : Array Value} {s : ByteArray} {m : Nat} {w wr : World} {xs : List Value} {A : Option Addr} {c : Nat} {u0 u1 u2 u3 : Value} (G : Geo B0 B tb rb ob lo) (h : BldI ch B0 B tb rb ob lo tc #[u0, u1, u2, u3] s m w wr m (.slice A m c) xs)
    {W : World} (hW : W = ((((wr.setCell ⟨rb, 0, none⟩ (.int .i64 4)).setCell ⟨rb, 1, none⟩ (.int .i64 0)).setCell ⟨rb, 2, none⟩ (.string s)).setCell ⟨rb, 3, none⟩ (.slice A m c))) :
    W.heap[rb]? = some (.cells #[.int .i64 4, .int .i64 0, .string s, .slice A m c] 24 (0, 0)) ∧ TP W (fun b => b < B0 ∨ lo ≤ b) (.mk 4 0 s m ch) (.agg #[.int .i64 4, .int .i64 0, .string s, .slice A m c]) ∧ Below B w W := by
  obtain ⟨Ga, Gb, Gc, Gd, Ge, Gf, Gg, Gh, Gi⟩ := G
  obtain ⟨OA, oc, e, hoc, hoA, _, hox⟩ := own_open h.own
  injection e with e1 e2 e3
  subst e1; subst e3
  have P := box_put4 h.rb (.int .i64 4) (.int .i64 0) (.string s) (.slice A m c) hW.symm
  refine ⟨P.1, ⟨A, c, rfl, hoc, hoA, fun hm0 => ?_⟩, P.2.2.2 _ _ Gc h.low⟩
  obtain ⟨g0, cur, rfl, hg3, hh, hcur⟩ := hox hm0
  refine ⟨g0, cur, (0, 0), rfl, .inr (by omega), (P.2.2.1 g0 (by omega)).trans hh, fun q hq => ?_⟩
  obtain ⟨v0, v1, v2, v3, c0, c1, c2, c3, ht⟩ := h.tp q hq
  refine ⟨v0, v1, v2, v3, (hcur _ (by omega)).trans c0, (hcur _ (by omega)).trans c1, (hcur _ (by omega)).trans c2, (hcur _ (by omega)).trans c3, ht.keep fun b cs f hS hh' => ⟨(P.2.2.1 b (by rcases hS with hS | hS <;> omega)).trans hh', ?_⟩⟩
  rcases hS with hS | hS
  · exact .inl hS
  · exact .inr (by omega)
end Go.Proofs.Ytlgeepjlnjlgdaa
