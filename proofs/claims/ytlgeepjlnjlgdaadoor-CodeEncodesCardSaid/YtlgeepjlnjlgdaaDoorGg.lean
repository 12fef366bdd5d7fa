/- A clause of a text in memory, for the laws of layer 11. -/
import Derived.Test.YtlgeepjlnjlgdaaDoorCo4
namespace Go.Proofs.YtlgeepjlnjlgdaaDoor
open Go.RowKit

/-- A clause in memory: its head in a box, its goals in a row. -/
structure ClM (w W : World) (X : Nat) (gv : Value) (th : T) (gs : List T) (S P : Nat → Prop) (B : Nat) (qs : List Q6) (h0 h1 : Int) (h2 : ByteArray) (h3 : Option Addr) (h4 h5 : Nat) : Prop where
  box : W.heap[X]? = some (.cells #[.int .i64 h0, .int .i64 h1, .string h2, .slice h3 h4 h5] 24 (0, 0))
  tp : TP W S th (.agg #[.int .i64 h0, .int .i64 h1, .string h2, .slice h3 h4 h5])
  tl : TL W B S P gv gs qs
  lt : ∀ b, S b → b < X
  low : Below w.heap.size w W
  ge : w.heap.size ≤ X
  good : th.good ∧ (∀ g ∈ gs, g.good) ∧ th.nodes ≤ 1001 ∧ nodesL gs ≤ 2002
  kc : Hid (th.kindC ∧ th.nodes ≤ 1000 ∧ (∀ g ∈ gs, g.kindC ∧ g.nodes ≤ 1000) ∧ th.nodes + gs.length + nodesL gs ≤ 3010)
theorem ClM.below {w W W' : World} {X : Nat} {gv : Value} {th : T} {gs : List T} {S P : Nat → Prop} {B : Nat} {qs : List Q6} {h0 h1 : Int} {h2 : ByteArray} {h3 : Option Addr} {h4 h5 : Nat} (h : ClM w W X gv th gs S P B qs h0 h1 h2 h3 h4 h5) (hb : Below W.heap.size W W') : ClM w W' X gv th gs S P B qs h0 h1 h2 h3 h4 h5 :=
  ⟨(hb.block X (heap_lt h.box)).trans h.box, h.tp.below hb, h.tl.below hb, h.lt, h.low.trans (hb.mono h.low.size), h.ge, h.good, h.kc⟩
theorem nodes_le : ∀ {gs : List T} {g : T}, g ∈ gs → g.nodes ≤ nodesL gs
  | x :: gs, g, h => by
    simp only [nodesL, List.map_cons, List.sum_cons]
    rcases List.mem_cons.1 h with rfl | h
    · omega
    · have := nodes_le h
      simp only [nodesL] at this
      omega
theorem sum_list : ∀ (l : List T), sumTo l.length (fun i => (l.getD i .nil).nodes) = nodesL l := by
  intro l
  have key : ∀ (q : Nat), q ≤ l.length → sumTo q (fun i => (l.getD i .nil).nodes) = nodesL (l.take q) := by
    intro q
    induction q with
    | zero => intro _; simp [sumTo, nodesL]
    | succ q ih =>
      intro hq
      have hq' : q < l.length := by omega
      simp only [sumTo]
      rw [ih (by omega), List.take_succ_eq_append_getElem hq', nodesL_app]
      simp [nodesL, List.getD_eq_getElem?_getD, hq']
  have := key l.length (Nat.le_refl _)
  rwa [List.take_length] at this
theorem whole_ok {th : T} {gs : List T} (h : th.ok) (hg : ∀ g ∈ gs, g.ok) (hn : th.nodes ≤ 1001) (hs : nodesL gs ≤ 2002) : (wholeT th gs).ok := by
  have hs1 := sum_list (th :: gs)
  refine ⟨⟨.inr (.inr (.inr ⟨rfl, rfl, by decide, by omega⟩)), fun i hi => ?_⟩, ?_⟩
  · have hi' : i < (th :: gs).length := by simpa using hi
    simp only [List.getD_eq_getElem?_getD, List.getElem?_eq_getElem hi', Option.getD_some]
    rcases List.mem_cons.1 (List.getElem_mem hi') with h1 | h1
    · rw [h1]; exact h.1
    · exact (hg _ h1).1
  · show 1 + sumTo (gs.length + 1) (fun i => ((th :: gs).getD i .nil).nodes) ≤ 4000
    have e : sumTo (gs.length + 1) (fun i => ((th :: gs).getD i .nil).nodes) = nodesL (th :: gs) := hs1
    rw [e]
    simp only [nodesL, List.map_cons, List.sum_cons] at hs ⊢
    omega
theorem a_good : (T.mk 3 0 ⟨#[97]⟩ 0 fun _ => .nil).good := ⟨.inr (.inr (.inl ⟨rfl, rfl, by decide, rfl⟩)), fun i h => absurd h (by omega)⟩
end Go.Proofs.YtlgeepjlnjlgdaaDoor
