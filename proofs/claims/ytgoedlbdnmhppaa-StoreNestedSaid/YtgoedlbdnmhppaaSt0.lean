/- The program's store in memory, by values; New, Vars, Mark. -/
import Derived.Test.YtgoedlbdnmhppaaRowOps
import Derived.Test.YtgoedlbdnmhppaaRow
import Derived.Test.YtgoedlbdnmhppaaRd1
import Derived.Lib.OwnKind
import Derived.Deep.RegionHeld3
import Derived.Deep.DrawnRows
import Derived.Deep.AppendLies
import Derived.Deep.RegionLaw
namespace Go.Proofs.Ytgoedlbdnmhppaa
open Go.RowKit

structure TV where
  k : Int
  n : Int
  s : ByteArray
  A : Option Addr
  m : Nat
  c : Nat
def TV.vals (t : TV) : List Value := [.int .i64 t.k, .int .i64 t.n, .string t.s, .slice t.A t.m t.c]
def TV.zero : TV := ⟨0, 0, ⟨#[]⟩, none, 0, 0⟩
structure CV where
  b : Bool
  to : TV
  attr : TV
def CV.vals (c : CV) : List Value := .bool c.b :: (c.to.vals ++ c.attr.vals)
def CV.zero : CV := ⟨false, TV.zero, TV.zero⟩
def evals (e : CV × Nat) : List Value := e.1.vals ++ [.int .i64 (e.2 : Int)]
def mvals (m : Nat × Nat) : List Value := [.int .i64 (m.1 : Int), .int .i64 (m.2 : Int)]
theorem Try.info_mark : (Try.prog.info? 64).map (fun i => (i.zero, i.size, i.bytes)) = some (some (.agg #[.int .i64 0, .int .i64 0]), 2, 16) := by kernel_rfl
theorem elMark : El Try.prog 60 64 (.agg #[.int .i64 0, .int .i64 0]) 2 16 := by
  obtain ⟨i0, hi, hz0, hz1, hz2⟩ := info_parts Try.info_mark
  exact ⟨Try.underlying60, ⟨i0, hi, hz0, hz1, hz2⟩, rfl, by omega⟩
theorem Try.info_cell : (Try.prog.info? 70).map (fun i => (i.zero, i.size, i.bytes)) = some (some (.agg #[.bool false, .int .i64 0, .int .i64 0, .string ⟨#[]⟩, .slice none 0 0, .int .i64 0, .int .i64 0, .string ⟨#[]⟩, .slice none 0 0]), 9, 120) := by kernel_rfl
theorem elCell : El Try.prog 58 70 (.agg #[.bool false, .int .i64 0, .int .i64 0, .string ⟨#[]⟩, .slice none 0 0, .int .i64 0, .int .i64 0, .string ⟨#[]⟩, .slice none 0 0]) 9 120 := by
  obtain ⟨i0, hi, hz0, hz1, hz2⟩ := info_parts Try.info_cell
  exact ⟨Try.underlying58, ⟨i0, hi, hz0, hz1, hz2⟩, rfl, by omega⟩
theorem Try.info_entry : (Try.prog.info? 72).map (fun i => (i.zero, i.size, i.bytes)) = some (some (.agg #[.bool false, .int .i64 0, .int .i64 0, .string ⟨#[]⟩, .slice none 0 0, .int .i64 0, .int .i64 0, .string ⟨#[]⟩, .slice none 0 0, .int .i64 0]), 10, 128) := by kernel_rfl
theorem elEntry : El Try.prog 59 72 (.agg #[.bool false, .int .i64 0, .int .i64 0, .string ⟨#[]⟩, .slice none 0 0, .int .i64 0, .int .i64 0, .string ⟨#[]⟩, .slice none 0 0, .int .i64 0]) 10 128 := by
  obtain ⟨i0, hi, hz0, hz1, hz2⟩ := info_parts Try.info_entry
  exact ⟨Try.underlying59, ⟨i0, hi, hz0, hz1, hz2⟩, rfl, by omega⟩
/-- The store: its box, its three rows, all from block B on. -/
structure SM (w : World) (B sb : Nat) (C : List CV) (R : List (CV × Nat)) (M : List (Nat × Nat)) : Prop where
  ex : ∃ A0 c0 A1 c1 A2 c2, w.heap[sb]? = some (.cells #[.slice A0 C.length c0, .slice A1 R.length c1, .slice A2 M.length c2] 62 (0, 0)) ∧
    w.ownsRow B 70 9 (.slice A0 C.length c0) C.length (C.flatMap CV.vals) ∧
    w.ownsRow B 72 10 (.slice A1 R.length c1) R.length (R.flatMap evals) ∧
    w.ownsRow B 64 2 (.slice A2 M.length c2) M.length (M.flatMap mvals)
  ge : B ≤ sb
/-- What is not the store's. -/
def NotSt (o : Obj) : Prop := ∀ cs ty f, o = .cells cs ty f → ty ≠ 62 ∧ ty ≠ 70 ∧ ty ≠ 72 ∧ ty ≠ 64
/-- What a call of the store's leaves alone. -/
structure SF (B : Nat) (w w' : World) : Prop where
  low : Below B w w'
  far : ∀ (k : Nat) (o : Obj), w.heap[k]? = some o → NotSt o → w'.heap[k]? = some o
theorem SF.refl (B : Nat) (w : World) : SF B w w := ⟨Below.refl _ _, fun _ _ h _ => h⟩
theorem SF.trans {B : Nat} {a b c : World} (h : SF B a b) (k : SF B b c) : SF B a c := ⟨h.low.trans k.low, fun g o h1 h2 => k.far g o (h.far g o h1 h2) h2⟩
theorem SF.below {B : Nat} {w w' : World} (hB : B ≤ w.heap.size) (h : Below w.heap.size w w') : SF B w w' := ⟨h.mono hB, fun k _ h1 _ => (h.block k (heap_lt h1)).trans h1⟩
theorem SM.keep {w w' : World} {B sb : Nat} {C : List CV} {R : List (CV × Nat)} {M : List (Nat × Nat)} (h : SM w B sb C R M)
    (hk : ∀ (k : Nat) (cs : Array Value) (ty : TypeId) (f : Nat × Nat), w.heap[k]? = some (.cells cs ty f) → (ty = 62 ∨ ty = 70 ∨ ty = 72 ∨ ty = 64) → w'.heap[k]? = some (.cells cs ty f)) : SM w' B sb C R M := by
  obtain ⟨A0, c0, A1, c1, A2, c2, hb, h0, h1, h2⟩ := h.ex
  exact ⟨⟨A0, c0, A1, c1, A2, c2, hk _ _ _ _ hb (.inl rfl),
    own_keep h0 fun g hg => by obtain ⟨cs, f, hh⟩ := Go.Lib.ownsRow_kind h0 g hg; exact (hk _ _ _ _ hh (.inr (.inl rfl))).trans hh.symm,
    own_keep h1 fun g hg => by obtain ⟨cs, f, hh⟩ := Go.Lib.ownsRow_kind h1 g hg; exact (hk _ _ _ _ hh (.inr (.inr (.inl rfl)))).trans hh.symm,
    own_keep h2 fun g hg => by obtain ⟨cs, f, hh⟩ := Go.Lib.ownsRow_kind h2 g hg; exact (hk _ _ _ _ hh (.inr (.inr (.inr rfl)))).trans hh.symm⟩, h.ge⟩
theorem SM.below {w w' : World} {B sb : Nat} {C : List CV} {R : List (CV × Nat)} {M : List (Nat × Nat)} (h : SM w B sb C R M) (hb : Below w.heap.size w w') : SM w' B sb C R M :=
  h.keep fun k _ _ _ h1 _ => (hb.block k (heap_lt h1)).trans h1
theorem snew_any (w : World) : Calls Try.prog 8 #[] w fun e w' => e = .returned (.pointer (some ⟨w.heap.size, 0, none⟩)) ∧ SM w' w.heap.size w.heap.size [] [] [] ∧ Below w.heap.size w w' := by
  go_enter Try.func8, Try.ntmps8
  go_wp2_with fail
  go_ret
  exact ⟨rfl, ⟨⟨none, 0, none, 0, none, 0, heap_alloc_new _ _, World.ownsRow_nil _ _ _ _, World.ownsRow_nil _ _ _ _, World.ownsRow_nil _ _ _ _⟩, Nat.le_refl _⟩, (Below.refl _ _).alloc (Nat.le_refl _) _⟩
theorem svars_any {w : World} {B sb : Nat} {C : List CV} {R : List (CV × Nat)} {M : List (Nat × Nat)} (h : SM w B sb C R M) :
    Calls Try.prog 14 #[.pointer (some ⟨sb, 0, none⟩)] w fun e w' => e = .returned (.int .i64 (C.length : Int)) ∧ w' = w := by
  obtain ⟨A0, c0, A1, c1, A2, c2, hb, _, _, _⟩ := h.ex
  have b0 := cell_of_row w sb 0 _ _ _ hb
  have hl := heap_lt hb
  clear hb h
  go_enter Try.func14, Try.ntmps14
  go_wp2_with fail
  go_ret
  exact ⟨rfl, rfl⟩
theorem flat_snoc {α : Type} (f : α → List Value) (l : List α) (x : α) : (l ++ [x]).flatMap f = l.flatMap f ++ f x := by simp
/-- What stands behind an append onto one of the rows. -/
theorem grownOther {w1 w2 : World} {B k n m : Nat} {e e' : TypeId} {v v' : Value} {xs ys : List Value} {size : Nat} (hx : w1.ownsRow B e k v n xs) (hg : w1.grownBy w2 v.ownBlock) (hy : w1.ownsRow B e' size v' m ys) (hne : e' ≠ e) : w2.ownsRow B e' size v' m ys :=
  own_keep hy fun g hg' => by
    obtain ⟨cs, f, hh⟩ := Go.Lib.ownsRow_kind hy g hg'
    refine hg.block g (heap_lt hh) fun h => ?_
    obtain ⟨cs', f', hh'⟩ := Go.Lib.ownsRow_kind hx g h.symm
    rw [hh] at hh'
    injection hh' with hh'
    injection hh' with _ hh'
    exact hne hh'
theorem keepBox {w w1 w2 : World} {B k n sb : Nat} {e ty : TypeId} {v : Value} {xs : List Value} {cs : Array Value} {f : Nat × Nat} (hb : w.heap[sb]? = some (.cells cs ty f)) (hx : w.ownsRow B e k v n xs) (h1 : Below w.heap.size w w1) (hg : w1.grownBy w2 v.ownBlock) (hne : ty ≠ e) :
    w2.heap[sb]? = some (.cells cs ty f) := by
  have hb1 := (h1.block _ (heap_lt hb)).trans hb
  refine (hg.block sb (heap_lt hb1) fun h => ?_).trans hb1
  obtain ⟨cs', f', hh'⟩ := Go.Lib.ownsRow_kind (own_below hx h1) sb h.symm
  rw [hb1] at hh'
  injection hh' with hh'
  injection hh' with _ hh'
  exact hne hh'
/-- The box written at one of its cells, behind an append onto a row. -/
theorem SM.marked {w w1 w2 W : World} {B sb : Nat} {C : List CV} {R : List (CV × Nat)} {M : List (Nat × Nat)} {A0 A1 A2 : Option Addr} {c0 c1 c2 g cap : Nat} {x : Nat × Nat}
    (hb : w.heap[sb]? = some (.cells #[.slice A0 C.length c0, .slice A1 R.length c1, .slice A2 M.length c2] 62 (0, 0)))
    (h0 : w.ownsRow B 70 9 (.slice A0 C.length c0) C.length (C.flatMap CV.vals)) (h1 : w.ownsRow B 72 10 (.slice A1 R.length c1) R.length (R.flatMap evals)) (h2 : w.ownsRow B 64 2 (.slice A2 M.length c2) M.length (M.flatMap mvals))
    (hge : B ≤ sb) (hB : Below w.heap.size w w1) (hown : w2.ownsRow B 64 2 (.slice (some ⟨g, 0, none⟩) (M.length + 1) cap) (M.length + 1) (M.flatMap mvals ++ mvals x)) (hg : w1.grownBy w2 (Value.slice A2 M.length c2).ownBlock)
    (hW : W = w2.setCell ⟨sb, 2, none⟩ (.slice (some ⟨g, 0, none⟩) (M.length + 1) cap)) : SM W B sb C R (M ++ [x]) ∧ SF B w W := by
  have hbs : B ≤ w.heap.size := by have := heap_lt hb; omega
  have b2 := keepBox hb h2 hB hg (by decide)
  have keepW : ∀ (k : Nat) (cs : Array Value) (ty : TypeId) (f : Nat × Nat), w2.heap[k]? = some (.cells cs ty f) → ty ≠ 62 → W.heap[k]? = some (.cells cs ty f) := fun k cs ty f hk hne => by
    rw [hW]
    refine (Below.heap_setCell _ _ _ k ?_).trans hk
    rintro rfl
    rw [show w2.heap[_]? = _ from b2] at hk
    injection hk with hk
    injection hk with _ hk
    exact hne hk.symm
  refine ⟨⟨⟨A0, c0, A1, c1, some ⟨g, 0, none⟩, cap, ?_, ?_, ?_, ?_⟩, hge⟩, ?_, ?_⟩
  · rw [hW, List.length_append]; simpa using blk_set b2 2 (.slice (some ⟨g, 0, none⟩) (M.length + 1) cap)
  · refine own_keep (grownOther (own_below h2 hB) hg (own_below h0 hB) (by decide)) fun k hk => ?_
    obtain ⟨cs, f, hh⟩ := Go.Lib.ownsRow_kind (grownOther (own_below h2 hB) hg (own_below h0 hB) (by decide)) k hk
    exact (keepW _ _ _ _ hh (by decide)).trans hh.symm
  · refine own_keep (grownOther (own_below h2 hB) hg (own_below h1 hB) (by decide)) fun k hk => ?_
    obtain ⟨cs, f, hh⟩ := Go.Lib.ownsRow_kind (grownOther (own_below h2 hB) hg (own_below h1 hB) (by decide)) k hk
    exact (keepW _ _ _ _ hh (by decide)).trans hh.symm
  · rw [flat_snoc, List.length_append]
    refine own_keep hown fun k hk => ?_
    obtain ⟨cs, f, hh⟩ := Go.Lib.ownsRow_kind hown k hk
    exact (keepW _ _ _ _ hh (by decide)).trans hh.symm
  · rw [hW]
    exact ((hB.mono hbs).grown hg (by have := hB.size; omega) fun k hk => (h2.lt k hk).1).setCell (p := ⟨sb, 2, none⟩) hge _
  · intro k o hk hn
    have hk1 := (hB.block k (heap_lt hk)).trans hk
    have hk2 : w2.heap[k]? = some o := by
      refine (hg.block k (heap_lt hk1) fun h => ?_).trans hk1
      obtain ⟨cs', f', hh'⟩ := Go.Lib.ownsRow_kind (own_below h2 hB) k h.symm
      rw [hk1] at hh'
      injection hh' with hh'
      exact (hn _ _ _ hh').2.2.2 rfl
    rw [hW]
    refine (Below.heap_setCell _ _ _ k ?_).trans hk2
    rintro rfl
    rw [show w2.heap[_]? = _ from b2] at hk2
    injection hk2 with hk2
    exact (hn _ _ _ hk2.symm).1 rfl
set_option maxRecDepth 100000 in
set_option maxHeartbeats 4000000 in
theorem smark_any {w : World} {B sb : Nat} {C : List CV} {R : List (CV × Nat)} {M : List (Nat × Nat)} (h : SM w B sb C R M) (hM : M.length ≤ 1000000) :
    Calls Try.prog 10 #[.pointer (some ⟨sb, 0, none⟩)] w fun e w' => e = .returned (.int .i64 (M.length : Int)) ∧ SM w' B sb C R (M ++ [(R.length, C.length)]) ∧ SF B w w' := by
  obtain ⟨A0, c0, A1, c1, A2, c2, hb, h0, h1, h2⟩ := h.ex
  have b0 := cell_of_row w sb 0 _ _ _ hb
  have b1 := cell_of_row w sb 1 _ _ _ hb
  have b2 := cell_of_row w sb 2 _ _ _ hb
  have hl := heap_lt hb
  have HB := Lib.hid hb
  have HGE := Lib.hid h.ge
  have H0 := Lib.hid h0
  have H1 := Lib.hid h1
  have H2 := Lib.hid h2
  have hBs : B ≤ w.heap.size := by have := h.ge; omega
  obtain ⟨item, ii1, ii2, ii3, ii4⟩ := elMark.hi
  clear hb h h0 h1 h2
  go_enter Try.func10, Try.ntmps10
  go_wp2_with fail
  go_region_law (refine step_append_lies _ rfl _ _ _ rfl B 64 item (.agg #[.int .i64 0, .int .i64 0]) 2 16 Try.underlying60 ii1 ii2 ii3 ii4 rfl (by omega) _ M.length _ rfl (own_below H2.out (by first | exact ((Below.refl _ _).drew).alloc (Nat.le_refl _) _ | exact ((Below.refl _ _).alloc (Nat.le_refl _) _).drew | exact (Below.refl _ _).alloc (Nat.le_refl _) _)) ⟨w.heap.size, 0, none⟩ 1 1 [.int .i64 (R.length : Int), .int .i64 (C.length : Int)] rfl rfl (World.news_of_block (heap_alloc_new _ _)) (by intro u hu; simp only [List.mem_cons, List.not_mem_nil, or_false] at hu; rcases hu with rfl | rfl <;> rfl) (by omega) (by unfold maxLen; omega) (by omega) (by simp; omega) _ rfl ?_; intro g1 cap1 w10 hown1 hg1 hat1 hlt1; have Z10 := keepBox HB.out H2.out (by first | exact ((Below.refl _ _).drew).alloc (Nat.le_refl _) _ | exact ((Below.refl _ _).alloc (Nat.le_refl _) _).drew | exact (Below.refl _ _).alloc (Nat.le_refl _) _) hg1 (by decide); have z2 := cell_of_row w10 sb 2 _ _ _ Z10; have zl := heap_lt Z10; have zf : w10.frozen? ⟨sb, 2, none⟩ = false := (by simp [World.frozen?, Z10]))
  all_goals
    have S := Lib.hid (SM.marked (x := (R.length, C.length)) HB.out H0.out H1.out H2.out HGE.out (by first | exact ((Below.refl _ _).drew).alloc (Nat.le_refl _) _ | exact ((Below.refl _ _).alloc (Nat.le_refl _) _).drew | exact (Below.refl _ _).alloc (Nat.le_refl _) _) hown1 hg1 rfl)
    have Y2 := cell_of_row _ sb 2 _ _ _ (blk_set Z10 2 (.slice (some ⟨g1, 0, none⟩) (M.length + 1) cap1))
    clear hown1 hg1 hat1 hlt1 Z10 b0 b1 b2
    go_wp2_with fail
    go_ret
    exact ⟨by simp, S.out⟩
end Go.Proofs.Ytgoedlbdnmhppaa
