/- The walks through the closures of code.Decode. -/
import Derived.Test.YtlgeepjlnjlgdaaGl
import Derived.Test.YtlgeepjlnjlgdaaGf
import Derived.Test.YtlgeepjlnjlgdaaGd2
namespace Go.Proofs.Ytlgeepjlnjlgdaa
open Go.RowKit

def fnN (ab lb rb : Nat) : Value := .func (.func 22) #[] #[.pointer (some ⟨ab, 0, none⟩), .pointer (some ⟨lb, 0, none⟩), .pointer (some ⟨rb, 0, none⟩)]
def fnR (nb rb fb : Nat) : Value := .func (.func 23) #[] #[.pointer (some ⟨nb, 0, none⟩), .pointer (some ⟨rb, 0, none⟩), .pointer (some ⟨fb, 0, none⟩)]
/-- Where a decoder stands: its boxes. -/
structure Ds (w : World) (lb ab rb nb fb : Nat) (lv : Value) (i : Nat) (right : Bool) : Prop where
  hl : w.heap[lb]? = some (.cells #[lv] 27 (0, 0))
  ha : w.heap[ab]? = some (.cells #[.int .i64 (i : Int)] 3 (0, 0))
  hr : w.heap[rb]? = some (.cells #[.bool right] 4 (0, 0))
  hn : w.heap[nb]? = some (.cells #[fnN ab lb rb] 59 (0, 0))
  hf : w.heap[fb]? = some (.cells #[fnR nb rb fb] 60 (0, 0))
theorem Ds.below {w w' : World} {lb ab rb nb fb : Nat} {lv : Value} {i : Nat} {right : Bool} (h : Ds w lb ab rb nb fb lv i right) (hb : Below w.heap.size w w') : Ds w' lb ab rb nb fb lv i right :=
  ⟨(hb.block _ (heap_lt h.hl)).trans h.hl, (hb.block _ (heap_lt h.ha)).trans h.ha, (hb.block _ (heap_lt h.hr)).trans h.hr, (hb.block _ (heap_lt h.hn)).trans h.hn, (hb.block _ (heap_lt h.hf)).trans h.hf⟩
/-- What is left alone. -/
structure Kd (ab rb B : Nat) (w w' : World) : Prop where
  low : Below B w w'
  keep : ∀ b, b < w.heap.size → b ≠ ab → b ≠ rb → w'.heap[b]? = w.heap[b]?
theorem Kd.of {ab rb B : Nat} {w w' : World} (h : Below w.heap.size w w') (hB : B ≤ w.heap.size) : Kd ab rb B w w' := ⟨h.mono hB, fun b hb _ _ => h.block b hb⟩
theorem Kd.trans {ab rb B : Nat} {w w1 w2 : World} (h : Kd ab rb B w w1) (k : Kd ab rb B w1 w2) : Kd ab rb B w w2 := ⟨h.low.trans k.low, fun b hb h1 h2 => (k.keep b (Nat.lt_of_lt_of_le hb h.low.size) h1 h2).trans (h.keep b hb h1 h2)⟩
theorem Kd.seta {ab rb B : Nat} {w : World} (hB : B ≤ ab) (v : Value) : Kd ab rb B w (w.setCell ⟨ab, 0, none⟩ v) := ⟨(Below.refl _ _).setCell (p := ⟨ab, 0, none⟩) hB v, fun _ _ h1 _ => Below.heap_setCell _ _ _ _ h1⟩
theorem Kd.setr {ab rb B : Nat} {w : World} (hB : B ≤ rb) (v : Value) : Kd ab rb B w (w.setCell ⟨rb, 0, none⟩ v) := ⟨(Below.refl _ _).setCell (p := ⟨rb, 0, none⟩) hB v, fun _ _ _ h2 => Below.heap_setCell _ _ _ _ h2⟩
theorem cells_ne {w : World} {a b : Nat} {cs cs' : Array Value} {t t' : TypeId} {m m' : Nat × Nat} (h : w.heap[a]? = some (.cells cs t m)) (h' : w.heap[b]? = some (.cells cs' t' m')) (hn : t ≠ t') : a ≠ b := by
  rintro rfl
  rw [h] at h'
  injection h' with h'
  injection h' with _ h'
  exact hn h'
theorem Kd.tp {ab rb B : Nat} {lb nb fb i : Nat} {lv : Value} {right : Bool} {w w' : World} (h : Kd ab rb B w w') (hd : Ds w lb ab rb nb fb lv i right) {S : Nat → Prop} {t : T} {v : Value} (ht : TP w S t v) : TP w' S t v :=
  ht.keep fun b _ _ hS hb => ⟨(h.keep b (heap_lt hb) (cells_ne hb hd.ha (by decide)) (cells_ne hb hd.hr (by decide))).trans hb, hS⟩
theorem Kd.row {ab rb B B0 : Nat} {lb nb fb i : Nat} {lv : Value} {right : Bool} {w w' : World} (h : Kd ab rb B w w') (hd : Ds w lb ab rb nb fb lv i right) {v : Value} {l : List Ins} (ho : IRw w B0 v l) : IRw w' B0 v l :=
  own_keep ho fun g hg => by
    obtain ⟨cs, f, hh⟩ := Go.Lib.ownsRow_kind ho g hg
    exact h.keep g (heap_lt hh) (cells_ne hh hd.ha (by decide)) (cells_ne hh hd.hr (by decide))
theorem Ds.seta {w : World} {lb ab rb nb fb : Nat} {lv : Value} {i : Nat} {right : Bool} (h : Ds w lb ab rb nb fb lv i right) (j : Nat) : Ds (w.setCell ⟨ab, 0, none⟩ (.int .i64 (j : Int))) lb ab rb nb fb lv j right :=
  ⟨(Below.heap_setCell _ _ _ _ (cells_ne h.hl h.ha (by decide))).trans h.hl, by simpa using blk_set h.ha 0 (.int .i64 (j : Int)), (Below.heap_setCell _ _ _ _ (cells_ne h.hr h.ha (by decide))).trans h.hr, (Below.heap_setCell _ _ _ _ (cells_ne h.hn h.ha (by decide))).trans h.hn, (Below.heap_setCell _ _ _ _ (cells_ne h.hf h.ha (by decide))).trans h.hf⟩
theorem Ds.setr {w : World} {lb ab rb nb fb : Nat} {lv : Value} {i : Nat} {right : Bool} (h : Ds w lb ab rb nb fb lv i right) (r : Bool) : Ds (w.setCell ⟨rb, 0, none⟩ (.bool r)) lb ab rb nb fb lv i r :=
  ⟨(Below.heap_setCell _ _ _ _ (cells_ne h.hl h.hr (by decide))).trans h.hl, (Below.heap_setCell _ _ _ _ (cells_ne h.ha h.hr (by decide))).trans h.ha, by simpa using blk_set h.hr 0 (.bool r), (Below.heap_setCell _ _ _ _ (cells_ne h.hn h.hr (by decide))).trans h.hn, (Below.heap_setCell _ _ _ _ (cells_ne h.hf h.hr (by decide))).trans h.hf⟩
/-- What 'next' hands back. -/
def NextP (l : List Ins) (lb ab rb nb fb B : Nat) (lv : Value) (i : Nat) (right : Bool) (w : World) (e : Ending) (w' : World) : Prop :=
  ∃ (x : Ins) (i' : Nat) (r' : Bool), e = .returned (.agg #[.int .i64 x.o, .int .i64 x.a, .string x.s]) ∧ Ds w' lb ab rb nb fb lv i' r' ∧ Hid ((i < l.length ∧ l[i]? = some x ∧ i' = i + 1 ∧ r' = right) ∨ (i = l.length ∧ x = ⟨0, 0, ⟨#[]⟩⟩ ∧ i' = i ∧ r' = false)) ∧ Kd ab rb B w w'
set_option maxRecDepth 100000 in
set_option maxHeartbeats 4000000 in
theorem next_d {l : List Ins} {lb ab rb nb fb B B0 : Nat} {lv : Value} {i : Nat} {right : Bool} {w : World} (hd : Ds w lb ab rb nb fb lv i right) (hlv : IRw w B0 lv l) (hfew : l.length ≤ 20000) (hi : i ≤ l.length) (hBa : B ≤ ab) (hBr : B ≤ rb) :
    Calls Try.prog 22 #[.pointer (some ⟨ab, 0, none⟩), .pointer (some ⟨lb, 0, none⟩), .pointer (some ⟨rb, 0, none⟩)] w fun e w' => NextP l lb ab rb nb fb B lv i right w e w' := by
  obtain ⟨A, c, rfl, _, _, _⟩ := hlv.all
  have HD := Lib.hid hd
  have HLV := Lib.hid hlv
  have q0 := cell_of_row w ab 0 _ _ _ hd.ha
  have q1 := cell_of_row w lb 0 _ _ _ hd.hl
  have q2 := cell_of_row w rb 0 _ _ _ hd.hr
  have l0 := heap_lt hd.ha
  have l1 := heap_lt hd.hl
  have l2 := heap_lt hd.hr
  have n1 := cells_ne hd.hl hd.ha (by decide)
  have n2 := cells_ne hd.hr hd.ha (by decide)
  have n3 := cells_ne hd.hl hd.hr (by decide)
  have z0 : ∀ j, w.frozen? ⟨ab, j, none⟩ = false := fun j => by simp [World.frozen?, HD.out.ha]
  have z2 : ∀ j, w.frozen? ⟨rb, j, none⟩ = false := fun j => by simp [World.frozen?, HD.out.hr]
  clear hd hlv
  by_cases hil : i = l.length
  · subst hil
    go_enter Try.func22, Try.ntmps22
    go_wp2_with fail
    refine bodyPost_ret (v := .agg #[.int .i64 0, .int .i64 0, .string ⟨#[]⟩]) (by simp [results, go_sem]) rfl ?_
    have BA := Below.alloc (Below.refl (w.setCell ⟨rb, 0, none⟩ (.bool false)).heap.size (w.setCell ⟨rb, 0, none⟩ (.bool false))) (Nat.le_refl _) (Obj.cells #[.int .i64 0, .int .i64 0, .string ⟨#[]⟩] 34)
    exact ⟨⟨0, 0, ⟨#[]⟩⟩, l.length, false, rfl, (HD.out.setr false).below BA, Lib.hid (.inr ⟨rfl, rfl, rfl, rfl⟩), (Kd.setr hBr _).trans (Kd.of BA (by simp; omega))⟩
  · have hil' : ((i : Int) == (l.length : Int)) = false := by simp; omega
    have hlt : i < l.length := by omega
    have hlt' : (i : Int) < (l.length : Int) := by omega
    obtain ⟨g, rfl, hgl, hcell⟩ := insrow HLV.out rfl hlt
    obtain ⟨x, hx⟩ : ∃ x, l[i]'hlt = x := ⟨_, rfl⟩
    rw [hx] at hcell
    have d0 := hcell 0 (by omega)
    have d1 := hcell 1 (by omega)
    have d2 := hcell 2 (by omega)
    simp [Ins.cells] at d0 d1 d2
    have HX := Lib.hid (show l[i]? = some x by rw [List.getElem?_eq_getElem hlt, hx])
    obtain ⟨_, _, hgk⟩ := Go.Lib.ownsRow_kind HLV.out g rfl
    have n4 := cells_ne hgk HD.out.ha (by decide)
    have FAR := fun (b : Nat) (hb : b < w.heap.size) (hne : b ≠ ab) => show ((w.setCell ⟨ab, 0, none⟩ (.int .i64 ((i : Int) + 1))).alloc (Obj.cells #[.int .i64 0, .int .i64 0, .string ⟨#[]⟩] 34)).heap[b]? = w.heap[b]? from (Below.heap_alloc _ _ _ (by simpa using hb)).trans (Below.heap_setCell _ _ _ _ hne)
    have f1 := cell_of_row _ lb 0 _ _ _ ((FAR lb l1 n1).trans HD.out.hl)
    have f0 := cell_of_row _ ab 0 _ _ _ (show ((w.setCell ⟨ab, 0, none⟩ (.int .i64 ((i : Int) + 1))).alloc (Obj.cells #[.int .i64 0, .int .i64 0, .string ⟨#[]⟩] 34)).heap[ab]? = _ from (Below.heap_alloc _ _ _ (by simpa using l0)).trans (by simpa using blk_set HD.out.ha 0 (.int .i64 ((i : Int) + 1))))
    have e0 := (World.cell?_of_block (FAR g hgl n4)).trans d0
    have e1 := (World.cell?_of_block (FAR g hgl n4)).trans d1
    have e2 := (World.cell?_of_block (FAR g hgl n4)).trans d2
    clear hcell hx hgk FAR
    go_enter Try.func22, Try.ntmps22
    go_wp2_with fail
    refine bodyPost_ret (v := .agg #[.int .i64 x.o, .int .i64 x.a, .string x.s]) (by simp [results, go_sem]) rfl ?_
    have BA := Below.alloc (Below.refl (w.setCell ⟨ab, 0, none⟩ (.int .i64 ((i + 1 : Nat) : Int))).heap.size (w.setCell ⟨ab, 0, none⟩ (.int .i64 ((i + 1 : Nat) : Int)))) (Nat.le_refl _) (Obj.cells #[.int .i64 x.o, .int .i64 x.a, .string x.s] 34)
    exact ⟨x, i + 1, right, rfl, (HD.out.seta (i + 1)).below BA, Lib.hid (.inl ⟨hlt, HX.out, rfl, rfl⟩), (Kd.seta hBa _).trans (Kd.of BA (by simp; omega))⟩
end Go.Proofs.Ytlgeepjlnjlgdaa
