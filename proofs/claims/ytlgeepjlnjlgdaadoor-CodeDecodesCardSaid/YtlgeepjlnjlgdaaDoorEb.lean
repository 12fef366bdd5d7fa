/- A clause as one term, in memory (coneylaw11.whole). -/
import Derived.Test.YtlgeepjlnjlgdaaDoorEJ
import Derived.Test.YtlgeepjlnjlgdaaDoorEW
import Derived.Test.YtlgeepjlnjlgdaaDoorEH
import Derived.Deep.RegionHeld3
import Derived.Deep.DrawnRows
namespace Go.Proofs.YtlgeepjlnjlgdaaDoor
open Go.RowKit
theorem TL.keep {w w' : World} {B : Nat} {S P : Nat → Prop} {v : Value} {l : List T} {qs : List Q6} (h : TL w B S P v l qs) (hs : w.heap.size ≤ w'.heap.size) (hk : ∀ b, b < w.heap.size → (S b ∨ B ≤ b) → w'.heap[b]? = w.heap[b]?) : TL w' B S P v l qs :=
  ⟨h.len, own_keep h.own fun g hg => hk g (h.own.lt g hg).2 (.inr (h.own.lt g hg).1), fun i h1 h2 => (h.tp i h1 h2).keep fun b _ _ hS hh => ⟨(hk b (heap_lt hh) (hS.imp id fun hP => (h.lo b hP).1)).trans hh, hS⟩, fun b hP => ⟨(h.lo b hP).1, Nat.lt_of_lt_of_le (h.lo b hP).2 hs⟩, h.off, h.NB⟩
theorem TL.cmp {w : World} {B : Nat} {S P : Nat → Prop} {A : Option Addr} {n c : Nat} {l : List T} {qs : List Q6} (h : TL w B S P (.slice A n c) l qs) (hn : n = l.length) (nm : ByteArray) {f : Nat → T} (hf : ∀ i (hi : i < l.length), f i = l[i]) :
    TP w (fun b => S b ∨ P b ∨ B ≤ b) (.mk 4 0 nm n f) (.agg #[.int .i64 4, .int .i64 0, .string nm, .slice A n c]) := by
  subst hn
  obtain ⟨A', c', he, hc, hA, _, hx⟩ := own_open h.own
  injection he with e1 _ e3
  subst e1; subst e3
  refine ⟨A, c, rfl, hc, hA, fun hm => ?_⟩
  obtain ⟨g, cur, rfl, hB, hh, hcur⟩ := hx hm
  refine ⟨g, cur, _, rfl, .inr (.inr hB), hh, fun i hi => ?_⟩
  have hq : i < qs.length := by rw [h.len]; exact hi
  have key : ∀ j, j < 4 → cur[4 * i + j]? = (qs[i]).cells[j]? := fun j hj => by
    rw [Nat.mul_comm 4 i, hcur _ (by omega)]
    exact qCells_at qs i hq j hj
  refine ⟨_, _, _, _, key 0 (by omega), key 1 (by omega), key 2 (by omega), key 3 (by omega), ?_⟩
  rw [hf i hi]
  exact (h.tp i hi hq).more fun b hb => hb.imp id .inl
def WhP (th : T) (gs : List T) (S P : Nat → Prop) (w : World) (e : Ending) (w' : World) : Prop :=
  (∃ (A : Option Addr) (c : Nat), e = .returned (.agg #[.int .i64 4, .int .i64 0, .string ⟨#[99, 108, 97, 117, 115, 101]⟩, .slice A (gs.length + 1) c]) ∧ TP w' (fun b => (S b ∨ P b) ∨ False ∨ w.heap.size ≤ b) (wholeT th gs) (.agg #[.int .i64 4, .int .i64 0, .string ⟨#[99, 108, 97, 117, 115, 101]⟩, .slice A (gs.length + 1) c])) ∧ Below w.heap.size w w'
set_option maxRecDepth 100000 in
set_option maxHeartbeats 4000000 in
theorem whole_any {th : T} {gs : List T} {w : World} {S P : Nat → Prop} {B : Nat} {hv gv : Value} {qs : List Q6} (hth : TP w S th hv) (hgs : TL w B S P gv gs qs) (hS : ∀ b, S b → b < w.heap.size) (hfew : gs.length ≤ 3000) :
    Calls Tryd.prog 17 #[hv, gv] w fun e w' => WhP th gs S P w e w' := by
  obtain ⟨q0, q1, q2, q3, q4, q5, rfl⟩ := hth.agg
  have HTH := Lib.hid hth
  have HGS := Lib.hid hgs
  obtain ⟨A, c, rfl, hc, hA, hx⟩ := hgs.all
  obtain ⟨W0, hW0⟩ : ∃ W0, W0 = ((w.alloc (Obj.cells #[.int .i64 q0, .int .i64 q1, .string q2, .slice q3 q4 q5] 24)).alloc (Obj.cells #[.int .i64 0, .int .i64 0, .string ⟨#[]⟩, .slice none 0 0] 24)).alloc (Obj.cells #[.int .i64 q0, .int .i64 q1, .string q2, .slice q3 q4 q5] 24) := ⟨_, rfl⟩
  have hz0 : W0.heap.size = w.heap.size + 3 := by rw [hW0]; simp
  have B0 := Lib.hid (show Below w.heap.size w W0 by rw [hW0]; exact belA (belA (belA (Below.refl _ _) _) _) _)
  have HR := Lib.hid (show W0.heap[w.heap.size + 1]? = some (.cells #[.int .i64 0, .int .i64 0, .string ⟨#[]⟩, .slice none 0 0] 24 (0, 0)) by
    rw [hW0]; exact (Below.heap_alloc _ _ _ (by simp)).trans (heap_at _ _ (by simp)))
  have HA0 := Lib.hid (show W0.heap[w.heap.size + 2]? = some (.cells (qCells [⟨q0, q1, q2, q3, q4, q5⟩]).toArray 24 (0, 0)) by
    rw [hW0]; exact heap_at _ _ (by simp))
  have TL0 := Lib.hid (show TL W0 (w.heap.size + 2) (fun b => S b ∨ P b) (fun _ => False) (.slice (some ⟨w.heap.size + 2, 0, none⟩) 1 1) [th] [⟨q0, q1, q2, q3, q4, q5⟩] from
    ⟨rfl, ⟨by rw [qCells_length]; rfl, .inr ⟨_, 1, _, rfl, by omega, HA0.out, Nat.le_refl _, by simp [maxLen], by rw [List.size_toArray, qCells_length]; simp, by simp [qCells, Q6.cells]⟩⟩, fun i h1 h2 => by
      obtain rfl : i = 0 := by simpa using h1
      exact (HTH.out.below B0.out).more fun b hb => .inl (.inl hb), fun _ h => h.elim, fun _ _ h => h, fun b hb => by
      rcases hb with hb | hb
      · have := hS b hb; omega
      · have := (HGS.out.lo b hb).2; omega⟩)
  have HX := Lib.hid (show 0 < gs.length → ∃ b off, A = some ⟨b, off, none⟩ ∧ ∀ j u, (qCells qs)[j]? = some u → W0.cell? ⟨b, off + j, none⟩ = some u from fun h0 => by
    obtain ⟨b, off, e, h⟩ := hx h0
    exact ⟨b, off, e, fun j u hu => (B0.out.cell (World.block_lt_of_cell? _ _ (h j u hu))).trans (h j u hu)⟩)
  have HGS0 := Lib.hid (HGS.out.below B0.out)
  have HW0 := Lib.hid hW0
  clear hth hgs hx hW0
  go_enter Tryd.func17, Tryd.ntmps17
  go_wp2_with (at_builtin; rw [← HW0.out]; go_must (refine wpList_append_at _ rfl _ _ _ rfl elTerm (w.heap.size + 2) _ 1 (qCells [⟨q0, q1, q2, q3, q4, q5⟩]) rfl TL0.out.own A gs.length c (qCells qs) rfl hA hc (by rw [qCells_length, HGS0.out.len]) HX.out (qCells_small _) (by omega) (by unfold maxLen; omega) (by omega) ?_))
  intro v1 w1 hown1 hg1 hat1
  have TL1 := Lib.hid (TL0.out.app (P2 := fun _ => False) HGS0.out.len hown1 hg1 (by rw [hz0]; exact hat1) (fun i h1 h2 => (HGS0.out.tp i h1 h2).more fun b hb => .inl hb) (fun _ h => h.elim) (fun _ _ h => h))
  have HR1 := Lib.hid ((hg1.block (w.heap.size + 1) (heap_lt HR.out) (by simp [Value.ownBlock])).trans HR.out)
  have B1 := Lib.hid (B0.out.grown hg1 (by omega) (by simp [Value.ownBlock]; omega))
  obtain ⟨A1, c1, rfl, _, _, _⟩ := TL1.out.all
  have xf : ∀ j, w1.frozen? ⟨w.heap.size + 1, j, none⟩ = false := fun j => by simp [World.frozen?, HR1.out]
  obtain ⟨x0, x1, x2, x3⟩ := box4t HR1.out
  have hl1 := heap_lt HR1.out
  clear hown1 hg1 hat1
  go_wp2_with fail
  obtain ⟨W6, hW6⟩ : ∃ W6, (((w1.setCell ⟨w.heap.size + 1, 0, none⟩ (.int .i64 4)).setCell ⟨w.heap.size + 1, 1, none⟩ (.int .i64 0)).setCell ⟨w.heap.size + 1, 2, none⟩ (.string ⟨#[99, 108, 97, 117, 115, 101]⟩)).setCell ⟨w.heap.size + 1, 3, none⟩ (.slice A1 (gs.length + 1) c1) = W6 := ⟨_, rfl⟩
  have hz6 : W6.heap.size = w1.heap.size := by rw [← hW6]; simp
  have P1 := box_put4 HR1.out (.int .i64 4) (.int .i64 0) (.string ⟨#[99, 108, 97, 117, 115, 101]⟩) (.slice A1 (gs.length + 1) c1) hW6
  have PB := P1.2.2.2 _ _ (by omega) B1.out
  obtain ⟨p0, p1, p2, p3⟩ := box4t P1.1
  rw [hW6]
  have hlen : ([th] ++ gs).length = gs.length + 1 := by simp
  have TL6 := TL1.out.keep (w' := W6) (by omega) fun b _ hb => P1.2.2.1 b (by
    rcases hb with hb | hb
    · have : b < w.heap.size := by
        rcases hb with hb | hb
        · exact hS b hb
        · exact (HGS.out.lo b hb).2
      omega
    · omega)
  have TC := TL6.cmp rfl ⟨#[99, 108, 97, 117, 115, 101]⟩ (f := fun i => (th :: gs).getD i .nil) (fun i hi => by
    have hi' : i < (th :: gs).length := by simpa using hi
    simp only [List.getD_eq_getElem?_getD]
    rw [List.getElem?_eq_getElem hi']
    rfl)
  rw [hlen] at TC
  refine bodyPost_ret (v := .agg #[.int .i64 4, .int .i64 0, .string ⟨#[99, 108, 97, 117, 115, 101]⟩, .slice A1 (gs.length + 1) c1]) (by simp [results, go_sem, p0, p1, p2, p3]) rfl ?_
  exact ⟨⟨A1, c1, rfl, TC.more fun b hb => by
    rcases hb with hb | hb | hb
    · exact .inl hb
    · rcases hb with hb | hb
      · exact .inr (.inl hb)
      · exact .inr (.inl hb)
    · exact .inr (.inr (by omega))⟩, PB⟩
theorem sum_list : ∀ (l : List T), sumTo l.length (fun i => (l.getD i .nil).nodes) = nodesL l := by
  intro l
  have key : ∀ (q : Nat), q ≤ l.length → sumTo q (fun i => (l.getD i .nil).nodes) = nodesL (l.take q) := by
    intro q
    induction q with
    | zero => intro _; simp [sumTo, nodesL]
    | succ q ih =>
      intro hq
      have hq' : q < l.length := by omega
      simp only [sumTo]
      rw [ih (by omega), List.take_succ_eq_append_getElem hq', nodesL_app]
      simp [nodesL, List.getD_eq_getElem?_getD, hq']
  have := key l.length (Nat.le_refl _)
  rwa [List.take_length] at this
theorem whole_ok2 {th : T} {gs : List T} (h : th.ok) (hg : ∀ g ∈ gs, g.ok) (hs : 1 + th.nodes + nodesL gs ≤ 4000) : (wholeT th gs).ok := by
  have hs1 := sum_list (th :: gs)
  refine ⟨⟨.inr (.inr (.inr ⟨rfl, rfl, by decide, by omega⟩)), fun i hi => ?_⟩, ?_⟩
  · have hi' : i < (th :: gs).length := by simpa using hi
    simp only [List.getD_eq_getElem?_getD, List.getElem?_eq_getElem hi', Option.getD_some]
    rcases List.mem_cons.1 (List.getElem_mem hi') with h1 | h1
    · rw [h1]; exact h.1
    · exact (hg _ h1).1
  · show 1 + sumTo (gs.length + 1) (fun i => ((th :: gs).getD i .nil).nodes) ≤ 4000
    have e : sumTo (gs.length + 1) (fun i => ((th :: gs).getD i .nil).nodes) = nodesL (th :: gs) := hs1
    rw [e]
    simp only [nodesL, List.map_cons, List.sum_cons] at hs ⊢
    omega
theorem dec_is {rd : Nat → Option (T × Nat)} {l : List Ins} {h : T} {gs : List T} (hd : decR rd l = some (h, gs)) : encN h gs = l := by
  unfold decR at hd
  cases hr : rd 1 with
  | none => rw [hr] at hd; cases hd
  | some p =>
    obtain ⟨h', i⟩ := p
    rw [hr] at hd
    dsimp only at hd
    split at hd
    · cases hg : goalsR rd l l.length [] i with
      | none => rw [hg] at hd; cases hd
      | some q =>
        obtain ⟨gs', j⟩ := q
        rw [hg] at hd
        dsimp only at hd
        split at hd
        · rename_i he
          injection hd with hd
          injection hd with h1 h2
          subst h1; subst h2
          exact he
        · cases hd
    · cases hd
end Go.Proofs.YtlgeepjlnjlgdaaDoor
