/- What the walk of script.Parse carries: the lines so far; the boxes. -/
import Derived.Test.YtipddolkikhojaaDoorSy
namespace Go.Proofs.YtipddolkikhojaaDoor
open Go.RowKit Go.Shelf

def lnsL (pre : List Ln) : List (List UInt8) := pre.map fun x => x.1.2.data.toList
theorem sayAll_app : ∀ (a b : List (List UInt8)) (n : Nat) (st : SS), sayAll (a ++ b) n st = match sayAll a n st with
    | .error e => .error e
    | .ok st' => sayAll b (n + a.length) st'
  | [], b, n, st => by simp [sayAll]
  | l :: a, b, n, st => by
    rw [List.cons_append, sayAll]
    cases h : sayL st l with
    | error e => simp [sayAll, h]
    | ok st' =>
      dsimp only
      rw [sayAll_app a b (n + 1) st']
      simp only [sayAll, h, List.length_cons, Nat.add_assoc, Nat.add_comm 1]
theorem sayAll_snoc {pre : List Ln} {x : Ln} {st st' : SS} (h : sayAll (lnsL pre) 1 SS.start = .ok st) (h' : sayL st x.1.2.data.toList = .ok st') : sayAll (lnsL (pre ++ [x])) 1 SS.start = .ok st' := by
  unfold lnsL at h ⊢
  rw [List.map_append, sayAll_app, h]
  simp [sayAll, h']
theorem lns_num : ∀ (xs : List Ln) (k : Nat) (ls : List (List UInt8)), xs.map Subtype.val = numL k ls → lnsL xs = ls
  | [], _, [], _ => rfl
  | [], _, _ :: _, h => by cases h
  | _ :: _, _, [], h => by cases h
  | x :: xs, k, l :: ls, h => by
    simp only [List.map_cons, numL, List.cons.injEq] at h
    have h2 := lns_num xs (k + 1) ls h.2
    unfold lnsL at h2 ⊢
    rw [List.map_cons, h2, h.1]
    simp [ba]
theorem num_pre : ∀ (pre : List Ln) (x : Ln) (k : Nat) (ls : List (List UInt8)) (r : List (Int × ByteArray)), numL k ls = (pre ++ [x]).map Subtype.val ++ r → x.1.1 = ((k + pre.length : Nat) : Int) ∧ ∃ r', ls = lnsL pre ++ x.1.2.data.toList :: r'
  | [], x, k, [], r, h => by cases h
  | [], x, k, l :: ls, r, h => by
    simp only [numL, List.nil_append, List.map_cons, List.map_nil, List.cons_append, List.cons.injEq] at h
    refine ⟨by rw [← h.1]; simp, ls, ?_⟩
    rw [← h.1]
    simp [lnsL, ba]
  | y :: pre, x, k, [], r, h => by cases h
  | y :: pre, x, k, l :: ls, r, h => by
    simp only [numL, List.cons_append, List.map_cons, List.cons.injEq] at h
    obtain ⟨h1, r', h2⟩ := num_pre pre x (k + 1) ls r h.2
    refine ⟨by rw [h1]; simp only [List.length_cons]; congr 1; omega, r', ?_⟩
    rw [h2, lnsL, lnsL, List.map_cons, ← h.1]
    simp [ba]
/-- The boxes of Parse while its text is read. -/
structure PI (b0 b1 b2 b3 b4 b5 b6 b7 : Nat) (w : World) (st : SS) (N : Nat) (W : World) : Prop where
  sb : SB W b3 st
  mp : ∃ M, SM W b5 N M ∧ SaidX M st
  bl : Lib.IsBuilder TB 5 b4 b4 (Lib.byteCells st.prog) W
  ln : ∃ cs, W.heap[b7]? = some (.cells cs 9 (0, 0))
  r0 : W.heap[b0]? = some (.cells #[.string ⟨#[]⟩, .string ⟨#[]⟩, .int .i64 0, .int .i64 0, .int .i64 0, .int .i64 0] 38 (0, 0))
  r1 : W.heap[b1]? = some (.cells #[.int .i64 0] 3 (0, 0))
  r2 : W.heap[b2]? = some (.cells #[.int .i64 0] 27 (0, 0))
  mv : W.heap[b6]? = some (.cells #[.map (some b5)] TM (0, 0))
  low : Below w.heap.size w W
/-- How the boxes lie. -/
def Ord8 (b0 b1 b2 b3 b4 b5 b6 b7 : Nat) (w : World) : Prop := b0 = w.heap.size ∧ b1 = b0 + 1 ∧ b2 = b0 + 2 ∧ b3 = b0 + 3 ∧ b4 = b0 + 4 ∧ b5 = b0 + 5 ∧ b6 = b0 + 6 ∧ b7 = b0 + 7
section
variable {b0 b1 b2 b3 b4 b5 b6 b7 N : Nat} {w W W' : World} {st st' : SS}
theorem PI.keep (h : PI b0 b1 b2 b3 b4 b5 b6 b7 w st N W) (hk : ∀ (k : Nat) (cs : Array Value) (t : TypeId) (f : Nat × Nat), W.heap[k]? = some (.cells cs t f) → W'.heap[k]? = some (.cells cs t f)) (h5 : W'.heap[b5]? = W.heap[b5]?) (hl : Below w.heap.size w W') : PI b0 b1 b2 b3 b4 b5 b6 b7 w st N W' :=
  ⟨hk _ _ _ _ h.sb, h.mp.imp fun _ hM => ⟨hM.1.keep h5, hM.2⟩, isb_keep h.bl fun k cs t f hh _ => hk k cs t f hh, h.ln.imp fun _ hc => hk _ _ _ _ hc, hk _ _ _ _ h.r0, hk _ _ _ _ h.r1, hk _ _ _ _ h.r2, hk _ _ _ _ h.mv, hl⟩
theorem PI.b5lt (h : PI b0 b1 b2 b3 b4 b5 b6 b7 w st N W) : b5 < W.heap.size := by obtain ⟨M, hM, _⟩ := h.mp; exact hM.lt
theorem PI.below (h : PI b0 b1 b2 b3 b4 b5 b6 b7 w st N W) (hb : Below W.heap.size W W') : PI b0 b1 b2 b3 b4 b5 b6 b7 w st N W' :=
  h.keep (fun k _ _ _ hk => (hb.block k (heap_lt hk)).trans hk) (hb.block b5 h.b5lt) (h.low.trans (hb.mono h.low.size))
theorem PI.grown {row : Option Nat} {B : Nat} (h : PI b0 b1 b2 b3 b4 b5 b6 b7 w st N W) (ho : Ord8 b0 b1 b2 b3 b4 b5 b6 b7 w) (hB : b7 < B) (hg : W.grownBy W' row) (hr : ∀ r, row = some r → B ≤ r ∧ ∃ o : Obj, W.heap[r]? = some o ∧ o.isCells = false) : PI b0 b1 b2 b3 b4 b5 b6 b7 w st N W' := by
  obtain ⟨e0, e1, e2, e3, e4, e5, e6, e7⟩ := ho
  exact h.keep (fun k cs t f hk => cells_grown hk hg fun r e => (hr r e).2) (hg.block b5 h.b5lt fun e => by have := (hr b5 e.symm).1; omega) (h.low.grown hg (by have := h.low.size; omega) fun k e => by have := (hr k e).1; omega)
theorem PI.put (h : PI b0 b1 b2 b3 b4 b5 b6 b7 w st N W) (ho : Ord8 b0 b1 b2 b3 b4 b5 b6 b7 w) (v : Value) : PI b0 b1 b2 b3 b4 b5 b6 b7 w st N (W.setCell ⟨b7, 0, none⟩ v) := by
  obtain ⟨e0, e1, e2, e3, e4, e5, e6, e7⟩ := ho
  obtain ⟨cs, hc⟩ := h.ln
  have ne : ∀ k, k ≠ b7 → (W.setCell ⟨b7, 0, none⟩ v).heap[k]? = W.heap[k]? := fun k hk => Below.heap_setCell _ _ _ k hk
  exact ⟨(ne _ (by omega)).trans h.sb, h.mp.imp fun M hM => ⟨hM.1.keep (ne _ (by omega)), hM.2⟩, isb_set h.bl hc (by decide) 0 v, ⟨_, blk_set hc 0 v⟩, (ne _ (by omega)).trans h.r0, (ne _ (by omega)).trans h.r1, (ne _ (by omega)).trans h.r2, (ne _ (by omega)).trans h.mv, h.low.setCell (p := ⟨b7, 0, none⟩) (by show w.heap.size ≤ b7; omega) v⟩
theorem far_cells {cs : Array Value} {t : TypeId} {f : Nat × Nat} (h : t ≠ TB ∧ t ≠ 5) : Obj.far (.cells cs t f) := fun cs' t' f' e => by injection e with _ e; rw [← e]; exact h
theorem PI.wrote {r : List UInt8} (h : PI b0 b1 b2 b3 b4 b5 b6 b7 w st N W) (ho : Ord8 b0 b1 b2 b3 b4 b5 b6 b7 w) (hk : KB b4 W W') (hb : Lib.IsBuilder TB 5 b4 b4 (Lib.byteCells (st.prog ++ r)) W') : PI b0 b1 b2 b3 b4 b5 b6 b7 w { st with prog := st.prog ++ r } N W' := by
  obtain ⟨e0, e1, e2, e3, e4, e5, e6, e7⟩ := ho
  refine ⟨hk.keep _ _ h.sb (far_cells (by decide)), ?_, hb, h.ln.imp fun cs hc => hk.keep _ _ hc (far_cells (by decide)), hk.keep _ _ h.r0 (far_cells (by decide)), hk.keep _ _ h.r1 (far_cells (by decide)), hk.keep _ _ h.r2 (far_cells (by decide)), hk.keep _ _ h.mv (far_cells (by decide)), h.low.trans (hk.low.mono (by omega))⟩
  obtain ⟨M, hM, hX⟩ := h.mp
  obtain ⟨o, ho, hf⟩ := hM.obj
  exact ⟨M, hM.keep ((hk.keep _ _ ho hf).trans ho.symm), hX⟩
theorem PI.said {M' : List UInt8 → Bool} (h : PI b0 b1 b2 b3 b4 b5 b6 b7 w st N W) (ho : Ord8 b0 b1 b2 b3 b4 b5 b6 b7 w) (hf : Fs b3 b5 W W') (hp : st'.prog = st.prog) (h1 : SB W' b3 st') (h2 : SM W' b5 (N + 1) M') (h3 : SaidX M' st') : PI b0 b1 b2 b3 b4 b5 b6 b7 w st' (N + 1) W' := by
  obtain ⟨e0, e1, e2, e3, e4, e5, e6, e7⟩ := ho
  obtain ⟨M, hM, hX⟩ := h.mp
  have h5 : ∀ (k : Nat) (cs : Array Value) (t : TypeId) (f : Nat × Nat), W.heap[k]? = some (.cells cs t f) → k ≠ b5 := fun k cs t f hk e => by
    rw [e] at hk
    obtain ⟨D, ⟨es, clock, hh, _⟩, _⟩ := hM
    rw [hk] at hh; injection hh with hh; cases hh
  have hbl : Lib.IsBuilder TB 5 b4 b4 (Lib.byteCells st'.prog) W' := by
    rw [hp]
    refine isb_keep h.bl fun k cs t f hk ht => hf.keep k _ hk (fun e => ?_) (h5 k cs t f hk)
    rw [e] at hk
    have hsb : W.heap[b3]? = _ := h.sb
    rw [hsb] at hk
    injection hk with hk
    injection hk with _ hk
    subst hk
    rcases ht with ht | ht <;> exact absurd ht (by decide)
  exact ⟨h1, ⟨M', h2, h3⟩, hbl, h.ln.imp fun cs hc => hf.keep _ _ hc (by omega) (by omega), hf.keep _ _ h.r0 (by omega) (by omega), hf.keep _ _ h.r1 (by omega) (by omega), hf.keep _ _ h.r2 (by omega) (by omega), hf.keep _ _ h.mv (by omega) (by omega), h.low.trans (hf.low _ (by omega) (by omega) h.low.size)⟩
end
end Go.Proofs.YtipddolkikhojaaDoor
