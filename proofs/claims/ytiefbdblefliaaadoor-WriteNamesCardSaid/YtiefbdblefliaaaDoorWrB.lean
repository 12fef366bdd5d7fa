/- A writer: a strings.Builder in the first field, names behind it: what its methods do. -/
import Derived.Test.YtiefbdblefliaaaDoorGj
import Derived.Test.YtiefbdblefliaaaDoorShelf
import Derived.Test.YtiefbdblefliaaaDoorGa
import Derived.Lib.Builder
import Derived.Lib.AppendStr
import Derived.Lib.UnsafeStr
import Derived.WalkKit
import Derived.Laws.Externs
import Derived.Lib.Hide
import Derived.Lib.OwnKind
namespace Go.Proofs.YtiefbdblefliaaaDoor
open Go.RowKit

abbrev TW : TypeId := 58
/-- A writer's box: the builder's own address, or none; its bytes; the names. -/
def WrAt (B b : Nat) (p nv : Value) (bs : List Value) (w : World) : Prop :=
  B ≤ b ∧ ∃ v, w.heap[b]? = some (.cells #[p, v, nv] TW (0, 0)) ∧ w.ownsRow B 5 1 v bs.length bs ∧ v.ownBlock ≠ some b
def IsW (B b : Nat) (nv : Value) (bs : List Value) (w : World) : Prop := WrAt B b (.pointer none) nv bs w ∨ WrAt B b (.pointer (some ⟨b, 0, none⟩)) nv bs w
theorem IsW.at {B b : Nat} {nv : Value} {bs : List Value} {w : World} (h : IsW B b nv bs w) : ∃ p, WrAt B b p nv bs w := h.elim (fun h => ⟨_, h⟩) fun h => ⟨_, h⟩
theorem WrAt.names {B b : Nat} {p nv : Value} {bs : List Value} {w : World} (h : WrAt B b p nv bs w) : w.cell? ⟨b, 2, none⟩ = some nv := by
  obtain ⟨_, v, hb, _⟩ := h
  simp [World.cell?, hb]
theorem WrAt.lt {B b : Nat} {p nv : Value} {bs : List Value} {w : World} (h : WrAt B b p nv bs w) : b < w.heap.size := by
  obtain ⟨_, v, hb, _⟩ := h
  exact bld_lt hb
theorem WrAt.below {B b : Nat} {p nv : Value} {bs : List Value} {w w' : World} (h : WrAt B b p nv bs w) (hb : Below w.heap.size w w') : WrAt B b p nv bs w' := by
  have hl := h.lt
  obtain ⟨h1, v, h2, h3, h4⟩ := h
  exact ⟨h1, v, (hb.block b hl).trans h2, own_below h3 hb, h4⟩
theorem IsW.below {B b : Nat} {nv : Value} {bs : List Value} {w w' : World} (h : IsW B b nv bs w) (hb : Below w.heap.size w w') : IsW B b nv bs w' := h.imp (·.below hb) (·.below hb)
/-- What a writer's methods leave alone. -/
structure Kw (B : Nat) (w w' : World) : Prop where
  low : Below B w w'
  keep : ∀ (b : Nat) (cs : Array Value) (t : TypeId) (m : Nat × Nat), w.heap[b]? = some (.cells cs t m) → t ≠ TW → t ≠ 5 → w'.heap[b]? = some (.cells cs t m)
theorem Kw.of {B : Nat} {w w' : World} (h : Below w.heap.size w w') (hB : B ≤ w.heap.size) : Kw B w w' := ⟨h.mono hB, fun b _ _ _ hb _ _ => (h.block b (heap_lt hb)).trans hb⟩
theorem Kw.refl (B : Nat) (w : World) : Kw B w w := ⟨Below.refl _ _, fun _ _ _ _ h _ _ => h⟩
theorem Kw.trans {B : Nat} {w w1 w2 : World} (h : Kw B w w1) (k : Kw B w1 w2) : Kw B w w2 := ⟨h.low.trans k.low, fun b cs t m hb h1 h2 => k.keep b cs t m (h.keep b cs t m hb h1 h2) h1 h2⟩
theorem Kw.size {B : Nat} {w w' : World} (h : Kw B w w') : w.heap.size ≤ w'.heap.size := h.low.size
theorem Kw.on {B : Nat} {w w1 w2 : World} (h : Kw B w w1) (hb : Below w1.heap.size w1 w2) (hB : B ≤ w.heap.size) : Kw B w w2 := h.trans (.of hb (Nat.le_trans hB h.size))
theorem Kw.drew {B : Nat} {w w' : World} (h : Kw B w w') : Kw B w w'.drew := ⟨h.low.drew, h.keep⟩
theorem Kw.set {B b : Nat} {cs : Array Value} {f : Nat × Nat} {w w' : World} (h : Kw B w w') (hb : w'.heap[b]? = some (.cells cs TW f)) (hB : B ≤ b) (i : Nat) (x : Value) : Kw B w (w'.setCell ⟨b, i, none⟩ x) :=
  ⟨h.low.setCell (p := ⟨b, i, none⟩) hB x, fun k ds t m hk h1 h2 => (Below.heap_setCell _ _ _ k fun e => by
    have := h.keep k ds t m hk h1 h2
    rw [show k = b from e, hb] at this
    injection this with this
    injection this with _ this
    exact h1 this.symm).trans (h.keep k ds t m hk h1 h2)⟩
theorem Kw.grown {B : Nat} {w X w' : World} {v : Value} {n : Nat} {xs : List Value} (h : Kw B w X) (hg : X.grownBy w' v.ownBlock) (ho : X.ownsRow B 5 1 v n xs) (hB : B ≤ w.heap.size) : Kw B w w' :=
  ⟨h.low.grown hg (Nat.le_trans hB h.low.size) (ownBlock_ge ho), fun b cs t m hb h1 h2 => by
    have h3 := h.keep b cs t m hb h1 h2
    refine (hg.block b (heap_lt h3) fun e => ?_).trans h3
    obtain ⟨cs', f, hh⟩ := Go.Lib.ownsRow_kind ho _ e.symm
    rw [h3] at hh
    injection hh with hh
    injection hh with _ hh
    exact h2 hh⟩
theorem lies_wr : liesAt Tryd.prog Tryd.prog.depth TW (3 / Tryd.prog.cellsOf TW) 0 TB 1 = true := by kernel_rfl
theorem wcheck_used (b : Nat) (w : World) (h0 : w.cell? ⟨b, 0, none⟩ = some (.pointer (some ⟨b, 0, none⟩))) :
    Calls Tryd.prog 55 #[.pointer (some ⟨b, 0, none⟩)] w fun e w' => e = .returned (.tuple #[]) ∧ w' = w := check_used b w h0
set_option maxHeartbeats 1000000 in
set_option maxRecDepth 100000 in
theorem wcheck_fresh (b : Nat) (w : World) (h0 : w.cell? ⟨b, 0, none⟩ = some (.pointer none)) (hsh : w.shape? b = some (TW, 3)) (hfz : w.frozen? ⟨b, 0, none⟩ = false) :
    Calls Tryd.prog 55 #[.pointer (some ⟨b, 0, none⟩)] w fun e w' => e = .returned (.tuple #[]) ∧ w' = w.setCell ⟨b, 0, none⟩ (.pointer (some ⟨b, 0, none⟩)) := by
  obtain ⟨j, hj, hjs⟩ := Option.map_eq_some_iff.1 Tryd.info_bld
  go_enter Tryd.func55, Tryd.ntmps55
  go_wp2
  rw [Lib.run_to_unsafe w ⟨b, 0, none⟩ Tryd.underlying53 Tryd.underlying104 hj (by rw [hjs]; decide) hsh (Nat.zero_lt_succ 2)]
  simp only [Result.andThen]
  rw [Oper.upon_value]
  go_wp2
  rw [run_callFunc_extern Tryd.func69 (by kernel_rfl) (by kernel_rfl) (by kernel_rfl) (e := Extern.AbiNoEscape.same) (by kernel_rfl)]
  rw [Lib.run_noEscape]
  simp only [Result.andThen]
  rw [Oper.upon_value]
  go_wp2
  rw [Lib.run_from_unsafe w ⟨b, 0, none⟩ Tryd.underlying104 Tryd.underlying53 hj hsh lies_wr]
  simp only [Result.andThen]
  rw [Oper.upon_value]
  go_wp2
  go_end0
  exact ⟨rfl, rfl⟩
theorem wcheck_any (B b : Nat) (nv : Value) (bs : List Value) (w : World) (h : IsW B b nv bs w) :
    Calls Tryd.prog 55 #[.pointer (some ⟨b, 0, none⟩)] w fun e w' => e = .returned (.tuple #[]) ∧ (WrAt B b (.pointer (some ⟨b, 0, none⟩)) nv bs w' ∧ Kw B w w') := by
  rcases h with h | h
  · obtain ⟨hB, v, hb, hown, hne⟩ := h
    refine (wcheck_fresh b w (by simp [World.cell?, hb]) (by simp [World.shape?, hb]) (by simp [World.frozen?, hb])).mono ?_
    rintro e w' ⟨rfl, rfl⟩
    refine ⟨rfl, ⟨hB, v, ?_, ?_, hne⟩, (Kw.refl B w).set hb hB 0 _⟩
    · simp [World.setCell, Array.getElem?_modify, hb]
    · exact hown.kept (row := some b) ⟨rfl, rfl, rfl, by simp [World.setCell], fun k _ hk => Below.heap_setCell _ _ _ _ (fun e => hk (by simp [e]))⟩ (Or.inr hne)
  · refine (wcheck_used b w (by obtain ⟨_, v, hb, _⟩ := h; simp [World.cell?, hb])).mono ?_
    rintro e w' ⟨rfl, rfl⟩
    exact ⟨rfl, h, Kw.refl B _⟩
set_option maxHeartbeats 2000000 in
set_option maxRecDepth 100000 in
/-- WriteString. -/
theorem wrstr_any (B b : Nat) (nv : Value) (bs : List Value) (s : ByteArray) (w : World) (h : IsW B b nv bs w) (hlen : bs.length + s.size ≤ 140737488355328) (hBw : B ≤ w.heap.size) :
    Calls Tryd.prog 38 #[.pointer (some ⟨b, 0, none⟩), .string s] w fun e w' => e = .returned (.tuple #[.int .i64 s.size, .nilIface]) ∧ (IsW B b nv (bs ++ Lib.strCells s) w' ∧ Kw B w w') := by
  obtain ⟨i0, hi, hz0, hz1, hz2⟩ := info_parts Tryd.info_byte
  go_enter Tryd.func38, Tryd.ntmps38
  go_wp2_with (go_at_call 55; refine (wcheck_any B b nv bs _ h).mono ?_)
  rintro e w1 ⟨rfl, h1, hb1⟩
  obtain ⟨hB, v, hbk, hown, hne⟩ := h1
  have c0 : w1.cell? ⟨b, 0, none⟩ = some (.pointer (some ⟨b, 0, none⟩)) := by rw [Lib.cell_of_heap hbk]; rfl
  have c1 : w1.cell? ⟨b, 1, none⟩ = some v := by rw [Lib.cell_of_heap hbk]; rfl
  go_wp2_with (at_builtin; refine Lib.wpList_append_own_string _ rfl _ _ 54 9 rfl B 5 i0 Tryd.underlying54 Tryd.underlying9 hi hz0 hz1 hz2 _ _ _ rfl hown s rfl ?c3 ?c4 ?c5 ?_)
  case c3 => unfold maxLen; omega
  case c4 => omega
  case c5 => have := hb1.size; omega
  intro v' w2 hown' hgrow _
  have hlt := bld_lt hbk
  have hb2 : w2.heap[b]? = some (.cells #[.pointer (some ⟨b, 0, none⟩), v, nv] TW (0, 0)) := by
    rw [hgrow.block b hlt (fun e => hne e.symm)]
    exact hbk
  have d0 : w2.cell? ⟨b, 0, none⟩ = some (.pointer (some ⟨b, 0, none⟩)) := by rw [Lib.cell_of_heap hb2]; rfl
  have d1 : w2.cell? ⟨b, 1, none⟩ = some v := by rw [Lib.cell_of_heap hb2]; rfl
  have f1 : w2.frozen? ⟨b, 1, none⟩ = false := Lib.frozen_of_heap hb2 1
  obtain ⟨ao, n', cap, rfl⟩ : ∃ ao n' cap, v' = .slice ao n' cap := by
    rcases hown'.2 with ⟨h0, _⟩ | ⟨g, cap, cur, hv, _⟩
    · exact ⟨_, _, _, h0⟩
    · exact ⟨_, _, _, hv⟩
  go_wp2
  refine bodyPost_ret (v := .tuple #[.int .i64 s.size, .nilIface]) (by simp [results, go_sem]) rfl ?_
  refine ⟨rfl, .inr ?_, ?_⟩
  · have hne2 := Lib.ownBlock_ne hown' hb2 (by decide)
    refine ⟨hB, _, ?_, ?_, hne2⟩
    · simp [World.setCell, Array.getElem?_modify, hb2]
    · rw [List.length_append, Lib.strCells_length]
      exact hown'.kept (row := some b) ⟨rfl, rfl, rfl, by simp [World.setCell], fun k _ hk => Below.heap_setCell _ _ _ _ (fun e => hk (by simp [e]))⟩ (Or.inr hne2)
  · exact (hb1.grown hgrow hown hBw).set hb2 hB 1 _
/-- What a method of the writer's that writes does. -/
def WrP (B b : Nat) (nv : Value) (l : List UInt8) (w : World) (e : Ending) (w' : World) : Prop := e = .returned (.tuple #[]) ∧ IsW B b nv (Lib.byteCells l) w' ∧ Kw B w w'
theorem IsW.le {B b : Nat} {nv : Value} {bs : List Value} {w : World} (h : IsW B b nv bs w) : B ≤ w.heap.size := by
  obtain ⟨p, h⟩ := h.at
  have := h.lt
  have := h.1
  omega
theorem IsW.nm {B b : Nat} {nv : Value} {bs : List Value} {w : World} (h : IsW B b nv bs w) : w.cell? ⟨b, 2, none⟩ = some nv := h.at.elim fun _ h => h.names
theorem IsW.lt {B b : Nat} {nv : Value} {bs : List Value} {w : World} (h : IsW B b nv bs w) : b < w.heap.size := h.at.elim fun _ h => h.lt
theorem wrb_any (B b : Nat) (nv : Value) (l r : List UInt8) (s : ByteArray) (w : World) (h : IsW B b nv (Lib.byteCells l) w) (hs : s.data.toList = r) (hlen : l.length + r.length ≤ 140737488355328) :
    Calls Tryd.prog 38 #[.pointer (some ⟨b, 0, none⟩), .string s] w fun e w' => e = .returned (.tuple #[.int .i64 s.size, .nilIface]) ∧ (IsW B b nv (Lib.byteCells (l ++ r)) w' ∧ Kw B w w') := by
  have e : Lib.byteCells (l ++ r) = Lib.byteCells l ++ Lib.strCells s := by rw [Lib.strCells_eq, hs]; simp [Lib.byteCells]
  rw [e]
  refine wrstr_any B b nv _ s w h ?_ h.le
  rw [Lib.byteCells_length]
  have : s.size = r.length := by rw [← hs]; exact Array.length_toList.symm
  omega
set_option maxHeartbeats 1000000 in
set_option maxRecDepth 100000 in
theorem wrtext_any (B b : Nat) (nv : Value) (l : List UInt8) (w : World) (h : IsW B b nv (Lib.byteCells l) w) (h0 : l ≠ []) :
    Calls Tryd.prog 20 #[.pointer (some ⟨b, 0, none⟩)] w fun e w' => e = .returned (.string ⟨l.toArray⟩) ∧ Below B w w' := by
  obtain ⟨p, hB, v, hbk, hown, hne⟩ := h.at
  have hl0 : l.length ≠ 0 := by simpa using h0
  rw [Lib.byteCells_length] at hown
  obtain ⟨g, cap, cur, rfl, hbg, hg, hnc, hcm, hcs, htake⟩ : ∃ g cap cur, v = .slice (some ⟨g, 0, none⟩) l.length cap ∧ B ≤ g ∧ w.heap[g]? = some (.cells cur 5 (0, 0)) ∧ l.length ≤ cap ∧ cap ≤ maxLen ∧ cur.size = cap * 1 ∧ cur.toList.take (l.length * 1) = Lib.byteCells l := by
    rcases hown.2 with ⟨_, hz⟩ | ⟨g, cap, cur, hv, r⟩
    · exact absurd hz hl0
    · exact ⟨g, cap, cur, hv, r⟩
  have c1 : w.drew.cell? ⟨b, 1, none⟩ = some (.slice (some ⟨g, 0, none⟩) l.length cap) := by
    have : w.drew.heap[b]? = some (.cells #[p, .slice (some ⟨g, 0, none⟩) l.length cap, nv] TW (0, 0)) := hbk
    rw [Lib.cell_of_heap this]; rfl
  have hSD : (Builtin.unsafeSliceData_ #[54] 80 #[.slice (some ⟨g, 0, none⟩) l.length cap]).run Tryd.prog w.drew = .ok (.pointer (some ⟨g, 0, none⟩)) w.drew :=
    Lib.run_unsafeSliceData_row _ _ _ _ _ _ (by omega)
  have hUS : (Builtin.unsafeString_ #[80, 3] 9 #[.pointer (some ⟨g, 0, none⟩), .int .i64 l.length]).run Tryd.prog w.drew = .ok (.string ⟨l.toArray⟩) (w.drew.freeze ⟨g, 0, none⟩ l.length) := by
    refine Lib.run_unsafeString_row w.drew 80 3 9 5 Tryd.underlying80 (by kernel_rfl) g cur.size (by have hg' : w.drew.heap[g]? = some (.cells cur 5 (0, 0)) := hg; simp [World.shape?, hg']) l h0 (by omega) (by unfold maxLen at hcm; omega) ?_
    intro j x hx
    have := hown.cells (g := g) rfl j (.int .u8 x.toNat) (by simp [Lib.byteCells, hx])
    exact this
  go_enter Tryd.func20, Tryd.ntmps20
  go_wp2
  go_region
  all_goals (go_wp2; go_ret; exact ⟨rfl, Lib.below_freeze (Below.drew (Below.refl B w)) (p := ⟨g, 0, none⟩) hbg _⟩)
/-- A new writer. -/
theorem wr_new (w : World) (nv : Value) : IsW w.heap.size w.heap.size nv [] (w.alloc (.cells #[.pointer none, .slice none 0 0, nv] TW)) :=
  .inl ⟨Nat.le_refl _, .slice none 0 0, heap_alloc_new _ _, World.ownsRow_nil _ _ _ _, by simp [Value.ownBlock]⟩
end Go.Proofs.YtiefbdblefliaaaDoor
