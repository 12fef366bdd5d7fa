/- A compound term whose arguments are stored, one by one, into a row that was made for them: what the loop keeps. -/
import Derived.Test.YtgoedlbdnmhppaaMa
namespace Go.Proofs.Ytgoedlbdnmhppaa
open Go.RowKit

structure MakI (ch : Nat → T) (B0 B tb rb g : Nat) (tc rc : Array Value) (m : Nat) (w wr : World) (i : Nat) : Prop where
  tb : wr.heap[tb]? = some (.cells tc 40 (0, 0))
  rb : wr.heap[rb]? = some (.cells rc 40 (0, 0))
  row : 0 < m → ∃ cur, wr.heap[g]? = some (.cells cur 40 (0, 0)) ∧ 4 * m ≤ cur.size ∧ ∀ q, q < i → ∃ v0 v1 v2 v3, cur[4 * q]? = some v0 ∧ cur[4 * q + 1]? = some v1 ∧ cur[4 * q + 2]? = some v2 ∧ cur[4 * q + 3]? = some v3 ∧
    TP wr (fun b => b < B0 ∨ g < b) (ch q) (.agg #[v0, v1, v2, v3])
  hi : i ≤ m
  low : Below B w wr
  lw : g < wr.heap.size
structure GeoM (B0 B tb rb g : Nat) : Prop where
  a : B0 ≤ B
  b : B ≤ tb
  c : B ≤ rb
  d : tb < g
  e : rb < g
theorem MakI.push {ch : Nat → T} {B0 B tb rb g : Nat} {tc rc : Array Value} {m : Nat} {w wr w8 W : World} {i : Nat} {a0 a1 a2 a3 : Value} {cur : Array Value} (G : GeoM B0 B tb rb g) (h : MakI ch B0 B tb rb g tc rc m w wr i) (him : i < m)
    (hb : Below wr.heap.size wr w8) (ht : TP w8 (fun b => b < B0 ∨ wr.heap.size ≤ b) (ch i) (.agg #[a0, a1, a2, a3])) (hcur : wr.heap[g]? = some (.cells cur 40 (0, 0)))
    (hW : W = (((w8.setCell ⟨g, i * 4, none⟩ a0).setCell ⟨g, i * 4 + 1, none⟩ a1).setCell ⟨g, i * 4 + 2, none⟩ a2).setCell ⟨g, i * 4 + 3, none⟩ a3) : MakI ch B0 B tb rb g tc rc m w W (i + 1) := by
  obtain ⟨Ga, Gb, Gc, Gd, Ge⟩ := G
  obtain ⟨cur', hc', hsz, hq⟩ := h.row (by omega)
  rw [hcur] at hc'
  injection hc' with hc'
  injection hc' with hc'
  subst hc'
  have hg8 := (hb.block g (heap_lt hcur)).trans hcur
  have ht2 := heap_lt h.tb
  have hr2 := heap_lt h.rb
  have hgw := h.lw
  have keep : ∀ b, b ≠ g → W.heap[b]? = w8.heap[b]? := fun b hne => by
    rw [hW, Below.heap_setCell _ _ _ b hne, Below.heap_setCell _ _ _ b hne, Below.heap_setCell _ _ _ b hne, Below.heap_setCell _ _ _ b hne]
  have hnew : W.heap[g]? = some (.cells ((((cur.setIfInBounds (i * 4) a0).setIfInBounds (i * 4 + 1) a1).setIfInBounds (i * 4 + 2) a2).setIfInBounds (i * 4 + 3) a3) 40 (0, 0)) := by
    rw [hW]
    exact blk_set (blk_set (blk_set (blk_set hg8 (i * 4) a0) (i * 4 + 1) a1) (i * 4 + 2) a2) (i * 4 + 3) a3
  have tpk : ∀ {S : Nat → Prop} {t : T} {v : Value}, TP w8 S t v → (∀ b, S b → b ≠ g) → TP W S t v := fun ht hS => ht.keep fun b cs f hb hh => ⟨(keep b (hS b hb)).trans hh, hb⟩
  have low8 : Below B w w8 := h.low.trans (hb.mono (by have := h.low.size; omega))
  refine ⟨(keep tb (by omega)).trans ((hb.block tb ht2).trans h.tb), (keep rb (by omega)).trans ((hb.block rb hr2).trans h.rb), fun _ => ⟨_, hnew, by simpa using hsz, fun q hqi => ?_⟩, him, ?_, ?_⟩
  · by_cases hqe : q = i
    · subst hqe
      refine ⟨a0, a1, a2, a3, ?_, ?_, ?_, ?_, (tpk ht fun b hS => by rcases hS with h | h <;> omega).more fun b hS => by rcases hS with h | h <;> omega⟩
      · rw [Nat.mul_comm 4 q]; simp [Array.getElem?_setIfInBounds]; omega
      · rw [Nat.mul_comm 4 q]; simp [Array.getElem?_setIfInBounds]; omega
      · rw [Nat.mul_comm 4 q]; simp [Array.getElem?_setIfInBounds]; omega
      · rw [Nat.mul_comm 4 q]; simp [Array.getElem?_setIfInBounds]; omega
    · obtain ⟨v0, v1, v2, v3, c0, c1, c2, c3, htq⟩ := hq q (by omega)
      have far : ∀ j, j < 4 → ((((cur.setIfInBounds (i * 4) a0).setIfInBounds (i * 4 + 1) a1).setIfInBounds (i * 4 + 2) a2).setIfInBounds (i * 4 + 3) a3)[4 * q + j]? = cur[4 * q + j]? := fun j hj => by
        rw [Array.getElem?_setIfInBounds_ne (by omega), Array.getElem?_setIfInBounds_ne (by omega), Array.getElem?_setIfInBounds_ne (by omega), Array.getElem?_setIfInBounds_ne (by omega)]
      exact ⟨v0, v1, v2, v3, (far 0 (by omega)).trans c0, (far 1 (by omega)).trans c1, (far 2 (by omega)).trans c2, (far 3 (by omega)).trans c3, tpk (htq.below hb) fun b hS => by rcases hS with h | h <;> omega⟩
  · rw [hW]
    exact (((low8.setCell (p := ⟨g, i * 4, none⟩) (by show B ≤ g; omega) _).setCell (p := ⟨g, i * 4 + 1, none⟩) (by show B ≤ g; omega) _).setCell (p := ⟨g, i * 4 + 2, none⟩) (by show B ≤ g; omega) _).setCell (p := ⟨g, i * 4 + 3, none⟩) (by show B ≤ g; omega) _
  · exact heap_lt hnew
/-- The result box, written with what was made. -/
theorem MakI.done {ch : Nat → T} {B0 B tb rb g : Nat} {tc : Array Value} {m : Nat} {s : ByteArray} {w wr W : World} {u0 u1 u2 u3 : Value} (G : GeoM B0 B tb rb g) (h : MakI ch B0 B tb rb g tc #[u0, u1, u2, u3] m w wr m)
    (hW : W = ((((wr.setCell ⟨rb, 0, none⟩ (.int .i64 4)).setCell ⟨rb, 1, none⟩ (.int .i64 0)).setCell ⟨rb, 2, none⟩ (.string s)).setCell ⟨rb, 3, none⟩ (.slice (some ⟨g, 0, none⟩) m m))) :
    W.heap[rb]? = some (.cells #[.int .i64 4, .int .i64 0, .string s, .slice (some ⟨g, 0, none⟩) m m] 40 (0, 0)) ∧ TP W (fun b => b < B0 ∨ B ≤ b) (.mk 4 0 s m ch) (.agg #[.int .i64 4, .int .i64 0, .string s, .slice (some ⟨g, 0, none⟩) m m]) ∧ Below B w W := by
  obtain ⟨Ga, Gb, Gc, Gd, Ge⟩ := G
  have P := box_put4 h.rb (.int .i64 4) (.int .i64 0) (.string s) (.slice (some ⟨g, 0, none⟩) m m) hW.symm
  refine ⟨P.1, ⟨_, m, rfl, Nat.le_refl _, (fun h => by cases h), fun hm0 => ?_⟩, P.2.2.2 _ _ Gc h.low⟩
  obtain ⟨cur, hc, _, hq⟩ := h.row hm0
  refine ⟨g, cur, (0, 0), rfl, .inr (by omega), (P.2.2.1 g (by omega)).trans hc, fun q hqm => ?_⟩
  obtain ⟨v0, v1, v2, v3, c0, c1, c2, c3, ht⟩ := hq q hqm
  refine ⟨v0, v1, v2, v3, c0, c1, c2, c3, ht.keep fun b cs f hS hh' => ⟨(P.2.2.1 b (by rcases hS with hS | hS <;> omega)).trans hh', ?_⟩⟩
  rcases hS with hS | hS
  · exact .inl hS
  · exact .inr (by omega)
end Go.Proofs.Ytgoedlbdnmhppaa
