/- strings.Builder.WriteString, with all that it leaves alone: whatever is no builder and no row of bytes. -/
import Derived.Test.YtlojlgcnhacleaaDoorBuild
import Derived.Test.YtlojlgcnhacleaaDoorRow
import Derived.Lib.OwnKind
import Derived.Test.YtlojlgcnhacleaaDoorRg
namespace Go.Proofs.YtlojlgcnhacleaaDoor
open Go.RowKit

/-- A block that no builder's method writes. -/
def Obj.far (o : Obj) : Prop := ∀ cs t f, o = .cells cs t f → t ≠ TB ∧ (t = 5 → f ≠ (0, 0))
structure KB (B : Nat) (w w' : World) : Prop where
  low : Below B w w'
  keep : ∀ (k : Nat) (o : Obj), w.heap[k]? = some o → Obj.far o → w'.heap[k]? = some o
theorem KB.refl (B : Nat) (w : World) : KB B w w := ⟨Below.refl _ _, fun _ _ h _ => h⟩
theorem KB.trans {B : Nat} {w w1 w2 : World} (h : KB B w w1) (k : KB B w1 w2) : KB B w w2 := ⟨h.low.trans k.low, fun i o hi ho => k.keep i o (h.keep i o hi ho) ho⟩
theorem KB.set {B b : Nat} {cs : Array Value} {f : Nat × Nat} {w w' : World} (h : KB B w w') (hb : w'.heap[b]? = some (.cells cs TB f)) (hB : B ≤ b) (i : Nat) (x : Value) : KB B w (w'.setCell ⟨b, i, none⟩ x) :=
  ⟨h.low.setCell (p := ⟨b, i, none⟩) hB x, fun k o hk ho => (Below.heap_setCell _ _ _ k fun e => by
    have := h.keep k o hk ho
    rw [show k = b from e, hb] at this
    injection this with this
    exact (ho _ _ _ this.symm).1 rfl).trans (h.keep k o hk ho)⟩
theorem KB.grown {B : Nat} {w X w' : World} {v : Value} {n : Nat} {xs : List Value} (h : KB B w X) (hg : X.grownBy w' v.ownBlock) (ho : X.ownsRow B 5 1 v n xs) (hB : B ≤ w.heap.size) : KB B w w' :=
  ⟨h.low.grown hg (Nat.le_trans hB h.low.size) (ownBlock_ge ho), fun k o hk hf => by
    have h3 := h.keep k o hk hf
    refine (hg.block k (heap_lt h3) fun e => ?_).trans h3
    rcases ho.2 with ⟨rfl, _⟩ | ⟨g, cap, cur, rfl, _, hh, _⟩
    · cases e
    · injection e with e
      subst e
      rw [h3] at hh
      injection hh with hh
      exact (hf _ _ _ hh).2 rfl rfl⟩
theorem kcheck_any (B b : Nat) (bs : List Value) (w : World) (h : Lib.IsBuilder TB 5 B b bs w) :
    Calls Tryd.prog 19 #[.pointer (some ⟨b, 0, none⟩)] w fun e w' => e = .returned (.tuple #[]) ∧ (Lib.BuilderAt TB 5 B b (.pointer (some ⟨b, 0, none⟩)) bs w' ∧ KB B w w') := by
  rcases h with h | h
  · refine (check_fresh b w h.cell0 h.shape h.frozen0).mono ?_
    rintro e w' ⟨rfl, rfl⟩
    obtain ⟨hB, v, hb, _⟩ := id h
    exact ⟨rfl, h.used _, (KB.refl B w).set hb hB 0 _⟩
  · refine (check_used b w h.cell0).mono ?_
    rintro e w' ⟨rfl, rfl⟩
    exact ⟨rfl, h, KB.refl B _⟩
set_option maxHeartbeats 2000000 in
set_option maxRecDepth 100000 in
/-- WriteString. -/
theorem kstring_any (B b : Nat) (bs : List Value) (s : ByteArray) (w : World) (h : Lib.IsBuilder TB 5 B b bs w) (hlen : bs.length + s.size ≤ 140737488355328) (hBw : B ≤ w.heap.size) :
    Calls Tryd.prog 10 #[.pointer (some ⟨b, 0, none⟩), .string s] w fun e w' => e = .returned (.tuple #[.int .i64 s.size, .nilIface]) ∧ (Lib.IsBuilder TB 5 B b (bs ++ Lib.strCells s) w' ∧ KB B w w') := by
  obtain ⟨i0, hi, hz0, hz1, hz2⟩ := info_parts Tryd.info_byte
  go_enter Tryd.func10, Tryd.ntmps10
  go_wp2_with (go_at_call 19; refine (kcheck_any B b bs _ h).mono ?_)
  rintro e w1 ⟨rfl, h1, hb1⟩
  obtain ⟨hB, v, hbk, hown, hne⟩ := h1
  have c0 : w1.cell? ⟨b, 0, none⟩ = some (.pointer (some ⟨b, 0, none⟩)) := by rw [Lib.cell_of_heap hbk]; rfl
  have c1 : w1.cell? ⟨b, 1, none⟩ = some v := by rw [Lib.cell_of_heap hbk]; rfl
  go_wp2_with (at_builtin; refine Lib.wpList_append_own_string _ rfl _ _ 32 9 rfl B 5 i0 Tryd.underlying32 Tryd.underlying9 hi hz0 hz1 hz2 _ _ _ rfl hown s rfl ?c3 ?c4 ?c5 ?_)
  case c3 => unfold maxLen; omega
  case c4 => omega
  case c5 => have := hb1.low.size; omega
  intro v' w2 hown' hgrow _
  have hlt := bld_lt hbk
  have hb2 : w2.heap[b]? = some (.cells #[.pointer (some ⟨b, 0, none⟩), v] TB (0, 0)) := by
    rw [hgrow.block b hlt (fun e => hne e.symm)]
    exact hbk
  have d0 : w2.cell? ⟨b, 0, none⟩ = some (.pointer (some ⟨b, 0, none⟩)) := by rw [Lib.cell_of_heap hb2]; rfl
  have d1 : w2.cell? ⟨b, 1, none⟩ = some v := by rw [Lib.cell_of_heap hb2]; rfl
  have f1 : w2.frozen? ⟨b, 1, none⟩ = false := Lib.frozen_of_heap hb2 1
  obtain ⟨ao, n', cap, rfl⟩ : ∃ ao n' cap, v' = .slice ao n' cap := by
    rcases hown'.2 with ⟨h0, _⟩ | ⟨g, cap, cur, hv, _⟩
    · exact ⟨_, _, _, h0⟩
    · exact ⟨_, _, _, hv⟩
  go_wp2
  refine bodyPost_ret (v := .tuple #[.int .i64 s.size, .nilIface]) (by simp [results, go_sem]) rfl ?_
  refine ⟨rfl, .inr ?_, ?_⟩
  · exact Lib.BuilderAt.put (T := TB) (e := 5) hB hb2 (bs' := bs ++ Lib.strCells s) (by rw [List.length_append, Lib.strCells_length]; exact hown') (by decide)
  · exact (hb1.grown hgrow hown hBw).set hb2 hB 1 _
theorem kb_any (B b : Nat) (l r : List UInt8) (s : ByteArray) (w : World) (h : Lib.IsBuilder TB 5 B b (Lib.byteCells l) w) (hs : s.data.toList = r) (hlen : l.length + r.length ≤ 140737488355328) (hB : B ≤ w.heap.size) :
    Calls Tryd.prog 10 #[.pointer (some ⟨b, 0, none⟩), .string s] w fun e w' => e = .returned (.tuple #[.int .i64 s.size, .nilIface]) ∧ (Lib.IsBuilder TB 5 B b (Lib.byteCells (l ++ r)) w' ∧ KB B w w') := by
  have e : Lib.byteCells (l ++ r) = Lib.byteCells l ++ Lib.strCells s := by rw [Lib.strCells_eq, hs]; simp [Lib.byteCells]
  rw [e]
  refine kstring_any B b _ s w h ?_ hB
  rw [Lib.byteCells_length]
  have : s.size = r.length := by rw [← hs]; exact Array.length_toList.symm
  omega
/-- A builder stands where its blocks stand. -/
theorem bat_keep {B b : Nat} {p : Value} {bs : List Value} {W W' : World} (h : Lib.BuilderAt TB 5 B b p bs W) (hk : ∀ (k : Nat) (cs : Array Value) (t : TypeId) (f : Nat × Nat), W.heap[k]? = some (.cells cs t f) → (t = TB ∨ t = 5) → W'.heap[k]? = some (.cells cs t f)) : Lib.BuilderAt TB 5 B b p bs W' := by
  obtain ⟨hB, v, hb, ho, hne⟩ := h
  refine ⟨hB, v, hk _ _ _ _ hb (.inl rfl), own_keep ho fun g hg => ?_, hne⟩
  obtain ⟨cs', f, hh⟩ := Go.Lib.ownsRow_kind ho _ hg
  exact (hk _ _ _ _ hh (.inr rfl)).trans hh.symm
theorem isb_keep {B b : Nat} {bs : List Value} {W W' : World} (h : Lib.IsBuilder TB 5 B b bs W) (hk : ∀ (k : Nat) (cs : Array Value) (t : TypeId) (f : Nat × Nat), W.heap[k]? = some (.cells cs t f) → (t = TB ∨ t = 5) → W'.heap[k]? = some (.cells cs t f)) : Lib.IsBuilder TB 5 B b bs W' :=
  h.imp (fun h => bat_keep h hk) (fun h => bat_keep h hk)
theorem isb_below {B b : Nat} {bs : List Value} {W W' : World} (h : Lib.IsBuilder TB 5 B b bs W) (hb : Below W.heap.size W W') : Lib.IsBuilder TB 5 B b bs W' := isb_keep h fun k _ _ _ hk _ => (hb.block k (heap_lt hk)).trans hk
theorem isb_grown {B b : Nat} {bs : List Value} {W W' : World} {row : Option Nat} (h : Lib.IsBuilder TB 5 B b bs W) (hg : W.grownBy W' row) (hr : ∀ r, row = some r → ∃ o : Obj, W.heap[r]? = some o ∧ o.isCells = false) : Lib.IsBuilder TB 5 B b bs W' :=
  isb_keep h fun k cs t f hk _ => (hg.block k (heap_lt hk) fun e => by
    obtain ⟨o, ho, hc⟩ := hr k e.symm
    rw [hk] at ho
    injection ho with ho
    rw [← ho] at hc
    cases hc).trans hk
theorem cells_grown {W W' : World} {row : Option Nat} {k : Nat} {cs : Array Value} {t : TypeId} {f : Nat × Nat} (hk : W.heap[k]? = some (.cells cs t f)) (hg : W.grownBy W' row) (hr : ∀ r, row = some r → ∃ o : Obj, W.heap[r]? = some o ∧ o.isCells = false) : W'.heap[k]? = some (.cells cs t f) :=
  (hg.block k (heap_lt hk) fun e => by
    obtain ⟨o, ho, hc⟩ := hr k e.symm
    rw [hk] at ho
    injection ho with ho
    rw [← ho] at hc
    cases hc).trans hk
theorem isb_set {B b b0 : Nat} {bs : List Value} {W : World} {cs0 : Array Value} {t0 : TypeId} {f0 : Nat × Nat} (h : Lib.IsBuilder TB 5 B b bs W) (h0 : W.heap[b0]? = some (.cells cs0 t0 f0)) (ht : t0 ≠ TB ∧ t0 ≠ 5) (i : Nat) (v : Value) : Lib.IsBuilder TB 5 B b bs (W.setCell ⟨b0, i, none⟩ v) :=
  isb_keep h fun k cs t f hk hto => (Below.heap_setCell _ _ _ k fun e => by
    rw [show k = b0 from e, h0] at hk
    injection hk with hk
    injection hk with _ hk
    rw [hk] at ht
    exact hto.elim ht.1 ht.2).trans hk
theorem far_noncells {o : Obj} (h : o.isCells = false) : Obj.far o := fun cs t f e => by rw [e] at h; cases h
theorem KB.from {B B0 : Nat} {w w' : World} (h : KB B w w') : KeepsFrom B0 w w' := ⟨h.low.size, fun k o _ hk ho => h.keep k o hk (far_noncells ho)⟩
end Go.Proofs.YtlojlgcnhacleaaDoor
