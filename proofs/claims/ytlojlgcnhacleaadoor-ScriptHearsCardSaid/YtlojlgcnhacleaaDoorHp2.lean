/- strings' Replacer: build. -/
import Derived.Test.YtlojlgcnhacleaaDoorHp1
import Derived.Deep.WholeRow
import Derived.Test.YtlojlgcnhacleaaDoorPush
import Derived.Test.YtlojlgcnhacleaaDoorRd4
import Derived.Lib.OwnKind
import Derived.Lib.SliceRun
namespace Go.Proofs.YtlojlgcnhacleaaDoor
open Go.RowKit Go.Shelf
/-- The four texts of the replacer lie at x. -/
def FourX (w : World) (x : Nat) : Prop := ∃ cs f, w.heap[x]? = some (.cells cs 9 f) ∧ cs[0]? = some (.string ⟨#[92]⟩) ∧ cs[1]? = some (.string ⟨#[92, 92]⟩) ∧ cs[2]? = some (.string ⟨#[10]⟩) ∧ cs[3]? = some (.string ⟨#[92, 110]⟩)
theorem FourX.keep {w w' : World} {x : Nat} (h : FourX w x) (hk : w'.heap[x]? = w.heap[x]?) : FourX w' x := by
  obtain ⟨cs, f, hh, hr⟩ := h
  exact ⟨cs, f, hk.trans hh, hr⟩
attribute [local go_sem] lit10 lit92 bneq_nil
theorem beql_nil (w : World) (a : Option Addr) (n c : Nat) : (binOp .eql 32 (.slice a n c) (.slice none 0 0)).run Tryd.prog w = .ok (.bool a.isNone) w := Lib.run_eql_slice_nil w _ _ a n c 0 0 Tryd.underlying32
attribute [local go_sem] beql_nil
theorem cv1 (W : World) (d : UInt8) : (convert 32 9 (.slice (some ⟨W.heap.size, 0, none⟩) 1 1)).run Tryd.prog (W.alloc (.cells #[.int .u8 (d.toNat : Int)] 5)) = .ok (.string ⟨#[d]⟩) (W.alloc (.cells #[.int .u8 (d.toNat : Int)] 5)) := by
  have := run_convert_bytes_arg (W.alloc (.cells #[.int .u8 (d.toNat : Int)] 5)) 32 5 Tryd.underlying32 Tryd.underlying5 W.heap.size 0 1 1 ([d].map fun c => (c.toNat : Int)) rfl (fun i hi => ?_) 9 Tryd.underlying9
  · rw [this, strOfNums_bytes]; rfl
  · obtain rfl : i = 0 := by omega
    exact cell_of_row _ _ 0 _ _ _ (heap_alloc_last W _)
theorem cb2 (W : World) (s : ByteArray) : (convert 9 32 (.string s)).run Tryd.prog W = .ok (.slice (some ⟨W.heap.size, 0, none⟩) s.size (grownCap W s.size 0 5)) (W.drew.alloc (.cells (bytesRow s (grownCap W s.size 0 5)) 5 ((bytesRow s (grownCap W s.size 0 5)).size, (bytesRow s (grownCap W s.size 0 5)).size + 1))) :=
  run_bytes_of_string W _ _ _ s Tryd.underlying9 Tryd.underlying32 Tryd.underlying5
theorem rowNe {w : World} {B size n : Nat} {e : TypeId} {v : Value} {xs : List Value} (h : w.ownsRow B e size v n xs) {b : Nat} {cs : Array Value} {t : TypeId} {f : Nat × Nat} (hb : w.heap[b]? = some (.cells cs t f)) (ht : t ≠ e) : some b ≠ v.ownBlock := fun e' => by
  obtain ⟨cs', f', hh⟩ := Go.Lib.ownsRow_kind h _ e'.symm
  rw [hb] at hh
  injection hh with hh
  injection hh with _ hh
  exact ht hh
/-- A cell of the table: laid, or not yet. -/
def CellX (_B : Nat) (wr : World) (C : Array Value) (c d : Nat) (on : Bool) : Prop := if on then ∃ g cc, C[c]? = some (.slice (some ⟨g, 0, none⟩) 2 cc) ∧ 2 ≤ cc ∧ ∃ cs fz, wr.heap[g]? = some (.cells cs 5 fz) ∧ fz ≠ (0, 0) ∧ cs[0]? = some (.int .u8 92) ∧ cs[1]? = some (.int .u8 d) else C[c]? = some (.slice none 0 0)
/-- The table under way. -/
structure BlX (B : Nat) (w wr : World) (G j : Nat) (C : Array Value) (A : Option Addr) (cc : Nat) : Prop where
  low : Below B w wr
  lo : B ≤ G
  box : wr.heap[G]? = some (.cells C 96 (0, 0))
  csz : C.size = 257
  top : C[256]? = some (.slice A j cc)
  own : wr.ownsRow B 9 1 (.slice A j cc) j (([.string ⟨#[10]⟩, .string ⟨#[92]⟩] : List Value).take j)
  miss : ∀ c : UInt8, hitL c = false → C[c.toNat]? = some (.slice none 0 0)
  h10 : CellX B wr C 10 110 (decide (1 ≤ j))
  h92 : CellX B wr C 92 92 (decide (2 ≤ j))
theorem miss_ne {c : UInt8} (hc : hitL c = true) (x : UInt8) (hx : hitL x = false) : x.toNat ≠ c.toNat := fun e => by
  rw [UInt8.toNat_inj.1 e, hc] at hx
  cases hx
/-- A table that masks, laid: its blocks. -/
def RpH (w : World) (b : Nat) : Prop := ∃ C, w.heap[b]? = some (.cells C 96 (0, 0)) ∧
  (∀ c : UInt8, hitL c = true → ∃ g cc cs fz, C[c.toNat]? = some (.slice (some ⟨g, 0, none⟩) 2 cc) ∧ 2 ≤ cc ∧ w.heap[g]? = some (.cells cs 5 fz) ∧ fz ≠ (0, 0) ∧ cs[0]? = some (.int .u8 92) ∧ cs[1]? = some (.int .u8 (maskC c).toNat)) ∧
  (∀ c : UInt8, hitL c = false → C[c.toNat]? = some (.slice none 0 0)) ∧
  ∃ z cc cs, C[256]? = some (.slice (some ⟨z, 0, none⟩) 2 cc) ∧ 2 ≤ cc ∧ w.heap[z]? = some (.cells cs 9 (0, 0)) ∧ cs[0]? = some (.string ⟨#[10]⟩) ∧ cs[1]? = some (.string ⟨#[92]⟩)
theorem RpH.keep {w w' : World} {b : Nat} (h : RpH w b) (hk : ∀ (k : Nat) (cs : Array Value) (t : TypeId) (f : Nat × Nat), w.heap[k]? = some (.cells cs t f) → (t = 96 ∨ t = 9 ∨ (t = 5 ∧ f ≠ (0, 0))) → w'.heap[k]? = some (.cells cs t f)) : RpH w' b := by
  obtain ⟨C, hb, hh, hm, z, cc, cs, z1, z2, z3, z4⟩ := h
  refine ⟨C, hk _ _ _ _ hb (.inl rfl), fun c hc => ?_, hm, z, cc, cs, z1, z2, hk _ _ _ _ z3 (.inr (.inl rfl)), z4⟩
  obtain ⟨g, k, cs', fz, g1, g2, g3, g4, g5⟩ := hh c hc
  exact ⟨g, k, cs', fz, g1, g2, hk _ _ _ _ g3 (.inr (.inr ⟨rfl, g4⟩)), g4, g5⟩
theorem RpH.lt {w : World} {b : Nat} (h : RpH w b) : b < w.heap.size := by
  obtain ⟨C, hb, -⟩ := h
  exact heap_lt hb
theorem RpH.below {w w' : World} {b : Nat} (h : RpH w b) (hb : Below w.heap.size w w') : RpH w' b := h.keep fun k _ _ _ hk _ => (hb.block k (heap_lt hk)).trans hk
theorem RpH.x {w : World} {b : Nat} (h : RpH w b) : RpX w b := by
  obtain ⟨C, hb, hh, hm, z, cc, cs, z1, z2, z3, z4, z5⟩ := h
  have at' : ∀ k, w.cell? ⟨b, k, none⟩ = C[k]? := fun k => cell_of_row w b k _ _ _ hb
  refine ⟨fun c hc => ?_, fun c hc => by rw [at']; exact hm c hc, z, cc, by rw [at']; exact z1, z2, (cell_of_row w z 0 _ _ _ z3).trans z4, (cell_of_row w z 1 _ _ _ z3).trans z5⟩
  obtain ⟨g, k, cs', fz, g1, g2, g3, g4, g5, g6⟩ := hh c hc
  exact ⟨g, k, by rw [at']; exact g1, g2, (cell_of_row w g 0 _ _ _ g3).trans g5, (cell_of_row w g 1 _ _ _ g3).trans g6⟩
theorem BlX.done {B : Nat} {w wr : World} {G : Nat} {C : Array Value} {A : Option Addr} {cc : Nat} (h : BlX B w wr G 2 C A cc) : RpH wr G := by
  refine ⟨C, h.box, fun c hc => ?_, h.miss, ?_⟩
  · have hx : ∀ d : Nat, CellX B wr C c.toNat d true → (d : Int) = ((maskC c).toNat : Int) → ∃ g cc cs fz, C[c.toNat]? = some (.slice (some ⟨g, 0, none⟩) 2 cc) ∧ 2 ≤ cc ∧ wr.heap[g]? = some (.cells cs 5 fz) ∧ fz ≠ (0, 0) ∧ cs[0]? = some (.int .u8 92) ∧ cs[1]? = some (.int .u8 (maskC c).toNat) := fun d hx hd => by
      obtain ⟨g, k, h1, h2, cs, f, h3, hf, h4, h5⟩ := hx
      exact ⟨g, k, cs, f, h1, h2, h3, hf, h4, by rw [h5, hd]⟩
    rcases (show c = 92 ∨ c = 10 by simpa [hitL] using hc) with rfl | rfl
    · exact hx 92 h.h92 rfl
    · exact hx 110 h.h10 rfl
  · obtain ⟨A', c', e, hc, hA, _, hx⟩ := own_open h.own
    injection e with e1 e2 e3
    subst e1 e3
    obtain ⟨g, cur, rfl, _, hh, hcell⟩ := hx (by decide)
    exact ⟨g, cc, cur, h.top, hc, hh, hcell 0 (by decide), hcell 1 (by decide)⟩
theorem zero_rep : Tryd.zeroCells96 = Array.replicate 257 (.slice none 0 0) := by kernel_rfl
theorem zero_all (v : Value) (hv : v.oneCell' = true) : (Tryd.zeroCells96.setIfInBounds 256 v).all (·.oneCell') = true := by
  rw [zero_rep, Array.all_eq_true_iff_forall_mem]
  intro u hu
  rcases Array.mem_or_eq_of_mem_setIfInBounds hu with h | rfl
  · rw [(Array.mem_replicate.1 h).2]; rfl
  · exact hv
theorem zero_at (c : UInt8) : Tryd.zeroCells96[c.toNat]? = some (.slice none 0 0) := by
  have h : ∀ k, k < 256 → Tryd.zeroCells96[k]? = some (.slice none 0 0) := fun k hk => by rw [zero_rep, Array.getElem?_replicate, if_pos (by omega)]
  exact h _ (UInt8.toNat_lt c)
/-- The world behind a round. -/
abbrev W9 (w5 : World) (G c : Nat) (v5 v7 : Value) (o7 : Obj) : World := (((w5.setCell ⟨G, 256, none⟩ v5).alloc o7).setCell ⟨G, c, none⟩ v7).drew
theorem BlX.step {B : Nat} {w wr : World} {G j c d : Nat} {C : Array Value} {A : Option Addr} {cc : Nat} (h : BlX B w wr G j C A cc) {o1 o2 : Obj} {w5 : World} {A5 : Option Addr} {c5 : Nat} {s : ByteArray} {k : Nat}
    (own5 : w5.ownsRow B 9 1 (.slice A5 (j + 1) c5) (j + 1) (([.string ⟨#[10]⟩, .string ⟨#[92]⟩] : List Value).take (j + 1)))
    (gr5 : ((wr.alloc o1).alloc o2).grownBy w5 (Value.slice A j cc).ownBlock) (hBw : B ≤ wr.heap.size) (hc : c < 256) (hm : ∀ x : UInt8, hitL x = false → x.toNat ≠ c) (hs : s = ⟨#[92, d.toUInt8]⟩) (hd : (d.toUInt8.toNat : Int) = (d : Int)) (hk : 2 ≤ k)
    (fz : Nat × Nat) (hfz : fz ≠ (0, 0))
    (hj : (j = 0 ∧ c = 10 ∧ d = 110) ∨ (j = 1 ∧ c = 92 ∧ d = 92)) :
    BlX B w (W9 w5 G c (.slice A5 (j + 1) c5) (.slice (some ⟨w5.heap.size, 0, none⟩) 2 k) (.cells (bytesRow s k) 5 fz)) G (j + 1) ((C.setIfInBounds 256 (.slice A5 (j + 1) c5)).setIfInBounds c (.slice (some ⟨w5.heap.size, 0, none⟩) 2 k)) A5 c5 := by
  have hGl := heap_lt h.box
  have e1 : (wr.alloc o1).heap.size = wr.heap.size + 1 := by simp
  have e2 : ((wr.alloc o1).alloc o2).heap.size = wr.heap.size + 2 := by simp
  have old : ∀ b, b < wr.heap.size → some b ≠ (Value.slice A j cc).ownBlock → w5.heap[b]? = wr.heap[b]? := fun b hb hne =>
    (gr5.block _ (by omega) hne).trans ((Below.heap_alloc _ _ _ (by omega)).trans (Below.heap_alloc _ _ _ hb))
  have hs5 : wr.heap.size + 2 ≤ w5.heap.size := by have := gr5.size; omega
  have es : (w5.setCell ⟨G, 256, none⟩ (.slice A5 (j + 1) c5)).heap.size = w5.heap.size := by simp
  have hb5 : w5.heap[G]? = some (.cells C 96 (0, 0)) := (old G hGl (rowNe h.own h.box (by decide))).trans h.box
  have hb6 := blk_set hb5 256 (.slice A5 (j + 1) c5)
  have hb7 : ((w5.setCell ⟨G, 256, none⟩ (.slice A5 (j + 1) c5)).alloc (.cells (bytesRow s k) 5 fz)).heap[G]? = _ := (Below.heap_alloc _ _ _ (heap_lt hb6)).trans hb6
  have hb8 := blk_set hb7 c (.slice (some ⟨w5.heap.size, 0, none⟩) 2 k)
  have keep : ∀ (b : Nat) (cs : Array Value) (e : TypeId) (f : Nat × Nat), e ≠ 96 → w5.heap[b]? = some (.cells cs e f) → (W9 w5 G c (.slice A5 (j + 1) c5) (.slice (some ⟨w5.heap.size, 0, none⟩) 2 k) (.cells (bytesRow s k) 5 fz)).heap[b]? = some (.cells cs e f) := fun b cs e f he hb => by
    have hne : b ≠ G := fun e' => by
      subst e'
      rw [hb5] at hb
      injection hb with hb
      injection hb with _ hb
      exact he hb.symm
    have hbl := heap_lt hb
    exact (Below.heap_setCell _ _ _ _ hne).trans ((Below.heap_alloc _ _ _ (by rw [es]; exact hbl)).trans ((Below.heap_setCell _ _ _ _ hne).trans hb))
  have new : (W9 w5 G c (.slice A5 (j + 1) c5) (.slice (some ⟨w5.heap.size, 0, none⟩) 2 k) (.cells (bytesRow s k) 5 fz)).heap[w5.heap.size]? = some (.cells (bytesRow s k) 5 fz) := by
    refine (Below.heap_setCell _ _ _ _ (by show w5.heap.size ≠ G; omega)).trans ?_
    have := heap_alloc_last (w5.setCell ⟨G, 256, none⟩ (.slice A5 (j + 1) c5)) (.cells (bytesRow s k) 5 fz)
    rwa [es] at this
  have hC := h.csz
  have laid : CellX B (W9 w5 G c (.slice A5 (j + 1) c5) (.slice (some ⟨w5.heap.size, 0, none⟩) 2 k) (.cells (bytesRow s k) 5 fz)) ((C.setIfInBounds 256 (.slice A5 (j + 1) c5)).setIfInBounds c (.slice (some ⟨w5.heap.size, 0, none⟩) 2 k)) c d true := by
    refine ⟨w5.heap.size, k, by rw [Array.getElem?_setIfInBounds_self_of_lt (by simp [hC]; omega)], hk, _, _, new, hfz, ?_, ?_⟩
    · rw [hs, bytesRow_at _ _ _ (show 0 < 2 by decide)]; rfl
    · rw [hs, bytesRow_at _ _ _ (show 1 < 2 by decide), ← hd]; rfl
  have stay : ∀ (c' d' : Nat) (on : Bool), c' ≠ c → c' ≠ 256 → CellX B wr C c' d' on → CellX B (W9 w5 G c (.slice A5 (j + 1) c5) (.slice (some ⟨w5.heap.size, 0, none⟩) 2 k) (.cells (bytesRow s k) 5 fz)) ((C.setIfInBounds 256 (.slice A5 (j + 1) c5)).setIfInBounds c (.slice (some ⟨w5.heap.size, 0, none⟩) 2 k)) c' d' on := fun c' d' on h1 h2 hx => by
    have hcell : ((C.setIfInBounds 256 (.slice A5 (j + 1) c5)).setIfInBounds c (.slice (some ⟨w5.heap.size, 0, none⟩) 2 k))[c']? = C[c']? := by rw [Array.getElem?_setIfInBounds_ne (Ne.symm h1), Array.getElem?_setIfInBounds_ne (Ne.symm h2)]
    unfold CellX at hx ⊢
    rw [hcell]
    cases on with
    | false => exact hx
    | true =>
      obtain ⟨g, kk, q1, q2, cs, f', q3, q4⟩ := hx
      exact ⟨g, kk, q1, q2, cs, f', keep g cs _ f' (by decide) ((old g (heap_lt q3) (rowNe h.own q3 (by decide))).trans q3), q4⟩
  refine ⟨((((((h.low.alloc hBw _).alloc (by omega) _).grown gr5 (by omega) (ownBlock_ge h.own)).setCell (p := ⟨G, 256, none⟩) h.lo _).alloc (by rw [es]; omega) _).setCell (p := ⟨G, c, none⟩) h.lo _).drew, h.lo, hb8, by simp [hC], ?_, ?_, ?_, ?_, ?_⟩
  · rw [Array.getElem?_setIfInBounds_ne (by omega), Array.getElem?_setIfInBounds_self_of_lt (by omega)]
  · exact own_keep own5 fun g hg => by
      obtain ⟨cs, f, hh⟩ := Go.Lib.ownsRow_kind own5 _ hg
      exact (keep g cs _ f (by decide) hh).trans hh.symm
  · intro x hx
    have h1 := UInt8.toNat_lt x
    rw [Array.getElem?_setIfInBounds_ne (Ne.symm (hm x hx)), Array.getElem?_setIfInBounds_ne (by omega)]
    exact h.miss x hx
  · rcases hj with ⟨rfl, rfl, rfl⟩ | ⟨rfl, rfl, rfl⟩
    · exact laid
    · exact stay 10 110 _ (by decide) (by decide) h.h10
  · rcases hj with ⟨rfl, rfl, rfl⟩ | ⟨rfl, rfl, rfl⟩
    · exact stay 92 92 _ (by decide) (by decide) h.h92
    · exact laid
set_option maxRecDepth 100000 in
set_option maxHeartbeats 4000000 in
theorem rbuild_any (w : World) (p x c : Nat) (hx : FourX w x) (hp : w.cell? ⟨p, 4, none⟩ = some (.slice (some ⟨x, 0, none⟩) 4 c)) :
    Calls Tryd.prog 30 #[.pointer (some ⟨p, 0, none⟩)] w fun e w' => ∃ b, e = .returned (.iface 97 (.pointer (some ⟨b, 0, none⟩))) ∧ w.heap.size ≤ b ∧ RpH w' b ∧ Below w.heap.size w w' := by
  obtain ⟨cs, f, hh, c0, c1, c2, c3⟩ := hx
  have x0 := (cell_of_row w x 0 _ _ _ hh).trans c0
  have x1 := (cell_of_row w x 1 _ _ _ hh).trans c1
  have x2 := (cell_of_row w x 2 _ _ _ hh).trans c2
  have x3 := (cell_of_row w x 3 _ _ _ hh).trans c3
  clear hh c0 c1 c2 c3
  go_enter Tryd.func30, Tryd.ntmps30
  go_wp2
  go_loopw [4, 5] (fun av iv wr => w = wr ∧ ((av = .bool true ∧ iv = .int .i64 0) ∨ (av = .bool false ∧ iv = .int .i64 2) ∨ (av = .bool false ∧ iv = .int .i64 4))) (fun _ iv _ => 4 - (intOf iv).toNat)
  case atStart => exact ⟨rfl, .inl ⟨rfl, rfl⟩⟩
  case round =>
    obtain ⟨rfl, ⟨rfl, rfl⟩ | ⟨rfl, rfl⟩ | ⟨rfl, rfl⟩⟩ := hrel
    · go_wp2
      go_roundw
      case rel => exact ⟨trivial, .inr (.inl ⟨rfl, rfl⟩)⟩
      case measure => simp [intOf]
    · go_wp2
      go_roundw
      case rel => exact ⟨trivial, .inr (.inr ⟨rfl, rfl⟩)⟩
      case measure => simp [intOf]
    · have hmk : ∀ w : World, (Instr.makeSlice 52 (.int .i64 0) (.int .i64 2)).run Tryd.prog w = .ok (.slice (some ⟨w.heap.size, 0, none⟩) 0 2) (w.alloc (.cells #[.string ⟨#[]⟩, .string ⟨#[]⟩] 9)) := fun _ => by kernel_rfl
      have hzc : Tryd.zeroCells96.size = 257 := by kernel_rfl
      have hst : ∀ v : Value, v.oneCell' = true → (storeCells ⟨w.heap.size + 1, 0, none⟩ (Tryd.zeroCells96.toList.set 256 v)).run Tryd.prog ((w.alloc (.cells #[.string ⟨#[]⟩, .string ⟨#[]⟩] 9)).alloc (.cells Tryd.zeroCells96 96)) = .ok () ((w.alloc (.cells #[.string ⟨#[]⟩, .string ⟨#[]⟩] 9)).alloc (.cells (Tryd.zeroCells96.setIfInBounds 256 v) 96)) := fun v hv => by
        have := run_storeCells_new (P := Tryd.prog) (w.alloc (.cells #[.string ⟨#[]⟩, .string ⟨#[]⟩] 9)) 96 Tryd.zeroCells96 (Tryd.zeroCells96.setIfInBounds 256 v) (by rw [Array.size_setIfInBounds, hzc]; kernel_rfl) (by simp) (zero_all v hv)
        simpa using this
      have hst1 := hst (.slice (some ⟨w.heap.size, 0, none⟩) 0 2) rfl
      clear hst
      go_wp2
      go_loopw [12] (fun iv wq => ∃ (j : Nat) (C : Array Value) (A : Option Addr) (cc : Nat), j ≤ 2 ∧ iv = .int .i64 (2 - 2 * (j : Int)) ∧ Hid (BlX w.heap.size w wq (w.heap.size + 1) j C A cc)) (fun iv _ => (intOf iv + 2).toNat)
      case atStart =>
        have e1 : (w.alloc (.cells #[.string ⟨#[]⟩, .string ⟨#[]⟩] 9)).heap.size = w.heap.size + 1 := by simp
        have hzm : ∀ c : UInt8, Tryd.zeroCells96[c.toNat]? = some (.slice none 0 0) := zero_at
        exact ⟨0, _, some ⟨w.heap.size, 0, none⟩, 2, by omega, rfl, Lib.hid ⟨((Below.refl _ _).alloc (Nat.le_refl _) _).alloc (by omega) _, by omega, heap_at _ _ (by simp), by simp [hzc], by rw [Array.getElem?_setIfInBounds_self_of_lt (by omega)], ⟨rfl, .inr ⟨w.heap.size, 2, _, rfl, Nat.le_refl _, (Below.heap_alloc _ _ _ (by omega)).trans (heap_alloc_last _ _), by omega, by decide, rfl, rfl⟩⟩, fun c _ => by rw [Array.getElem?_setIfInBounds_ne (by have := UInt8.toNat_lt c; omega)]; exact hzm c, by show _ = _; rw [Array.getElem?_setIfInBounds_ne (by decide)]; exact hzm 10, by show _ = _; rw [Array.getElem?_setIfInBounds_ne (by decide)]; exact hzm 92⟩⟩
      case round =>
        obtain ⟨j, C, A, cc, hj, rfl, hR⟩ := hrel
        have hb := hR.out.box
        have hlo := hR.out.low
        have r0 := (hlo.cell (p := ⟨x, 0, none⟩) (cell_lt x0)).trans x0
        have r1 := (hlo.cell (p := ⟨x, 1, none⟩) (cell_lt x1)).trans x1
        have r2 := (hlo.cell (p := ⟨x, 2, none⟩) (cell_lt x2)).trans x2
        have r3 := (hlo.cell (p := ⟨x, 3, none⟩) (cell_lt x3)).trans x3
        have ht : wr.cell? ⟨w.heap.size + 1, 256, none⟩ = some (.slice A j cc) := (cell_of_row wr _ 256 _ _ _ hb).trans hR.out.top
        have HB := Lib.hid hb
        clear hb hst1 hmk hp x0 x1 x2 x3 hlo
        rcases (show j = 0 ∨ j = 1 ∨ j = 2 by omega) with rfl | rfl | rfl
        · have hc : wr.cell? ⟨w.heap.size + 1, 10, none⟩ = some (.slice none 0 0) := (cell_of_row wr _ 10 _ _ _ HB.out).trans hR.out.h10
          have hcv := fun W : World => cv1 W 10
          have hcb := fun W : World => cb2 W ⟨#[92, 110]⟩
          simp only [show (UInt8.toNat 10 : Int) = 10 from rfl] at hcv
          obtain ⟨i0, hi, hz0, hz1, hz2⟩ := elStr.hi
          have hls := hR.out.low.size
          have hGl : w.heap.size + 1 < wr.heap.size := heap_lt HB.out
          have hLS := Lib.hid hls
          have hGL := Lib.hid hGl
          clear hls hGl
          go_wp2_with (at_builtin; go_must (refine wpList_append_own _ rfl _ _ 52 rfl w.heap.size 9 i0 (.string ⟨#[]⟩) 1 16 Tryd.underlying52 hi hz0 hz1 hz2 rfl (by decide) _ _ _ rfl ((hR.out.own.alloc _).alloc _) ⟨wr.heap.size + 1, 0, none⟩ 1 1 [.string ⟨#[10]⟩] rfl rfl (World.news_of_block (heap_at _ _ (by simp))) (fun u hu => by rw [List.mem_singleton.1 hu]; rfl) (by decide) (by decide) (by have := hLS.out; simp <;> omega) ?_; intro v5 w5 hown5 hgr5 _; obtain ⟨A5, c5, rfl, -⟩ := own_open hown5; have hb5 : w5.heap[w.heap.size + 1]? = some (.cells C 96 (0, 0)) := (hgr5.block _ (by have := hGL.out; simp <;> omega) (rowNe hR.out.own HB.out (by decide))).trans (((Below.heap_alloc _ _ _ (by have := hGL.out; simp <;> omega)).trans (Below.heap_alloc _ _ _ hGL.out)).trans HB.out); have ht5 : w5.cell? ⟨w.heap.size + 1, 256, none⟩ = some (.slice A 0 cc) := (cell_of_row w5 _ 256 _ _ _ hb5).trans hR.out.top; have hf5 : w5.frozen? ⟨w.heap.size + 1, 256, none⟩ = false := (by simp [World.frozen?, hb5]); have hb6 := blk_set hb5 256 (.slice A5 1 c5); have hc6 : (w5.setCell ⟨w.heap.size + 1, 256, none⟩ (.slice A5 1 c5)).cell? ⟨w.heap.size + 1, 10, none⟩ = some (.slice none 0 0) := (cell_of_row _ _ 10 _ _ _ hb6).trans (by rw [Array.getElem?_setIfInBounds_ne (by decide)]; exact hR.out.h10); have hf6 : (w5.setCell ⟨w.heap.size + 1, 256, none⟩ (.slice A5 1 c5)).frozen? ⟨w.heap.size + 1, 10, none⟩ = false := (by simp [World.frozen?, hb6]); have hg6 := heap_lt hb6; have hb7 : ∀ ob : Obj, (((w5.setCell ⟨w.heap.size + 1, 256, none⟩ (.slice A5 1 c5)).alloc ob).drew).heap[w.heap.size + 1]? = some (.cells (C.setIfInBounds 256 (.slice A5 1 c5)) 96 (0, 0)) := (fun ob => (Below.heap_alloc _ _ _ hg6).trans hb6); have hc7 : ∀ ob : Obj, (((w5.setCell ⟨w.heap.size + 1, 256, none⟩ (.slice A5 1 c5)).alloc ob).drew).cell? ⟨w.heap.size + 1, 10, none⟩ = some (.slice none 0 0) := (fun ob => (cell_of_row _ _ 10 _ _ _ (hb7 ob)).trans ((by rw [Array.getElem?_setIfInBounds_ne (by decide)]; exact hR.out.h10))); have hf7 : ∀ ob : Obj, (((w5.setCell ⟨w.heap.size + 1, 256, none⟩ (.slice A5 1 c5)).alloc ob).drew).frozen? ⟨w.heap.size + 1, 10, none⟩ = false := (fun ob => by unfold World.frozen?; simp only [hb7 ob]; simp); have HB7 := Lib.hid hb7; clear hb7 hg6; have HB5 := Lib.hid hb5; have HB6 := Lib.hid hb6; have OW5 := Lib.hid hown5; have GR5 := Lib.hid hgr5; clear hb5 hb6 hown5 hgr5))
          go_roundw
          case rel => exact ⟨1, _, A5, c5, by omega, by simp, Lib.hid (hR.out.step (c := 10) (d := 110) OW5.out GR5.out hLS.out (by decide) (miss_ne (c := 10) rfl) rfl rfl (grownCap_ge _ _ _ _) _ (fun e => by injection e; omega) (.inl ⟨rfl, rfl, rfl⟩))⟩
          case measure => simp [intOf]
        · have hc : wr.cell? ⟨w.heap.size + 1, 92, none⟩ = some (.slice none 0 0) := (cell_of_row wr _ 92 _ _ _ HB.out).trans hR.out.h92
          have hcv := fun W : World => cv1 W 92
          have hcb := fun W : World => cb2 W ⟨#[92, 92]⟩
          simp only [show (UInt8.toNat 92 : Int) = 92 from rfl] at hcv
          obtain ⟨i0, hi, hz0, hz1, hz2⟩ := elStr.hi
          have hls := hR.out.low.size
          have hGl : w.heap.size + 1 < wr.heap.size := heap_lt HB.out
          have hLS := Lib.hid hls
          have hGL := Lib.hid hGl
          clear hls hGl
          go_wp2_with (at_builtin; go_must (refine wpList_append_own _ rfl _ _ 52 rfl w.heap.size 9 i0 (.string ⟨#[]⟩) 1 16 Tryd.underlying52 hi hz0 hz1 hz2 rfl (by decide) _ _ _ rfl ((hR.out.own.alloc _).alloc _) ⟨wr.heap.size + 1, 0, none⟩ 1 1 [.string ⟨#[92]⟩] rfl rfl (World.news_of_block (heap_at _ _ (by simp))) (fun u hu => by rw [List.mem_singleton.1 hu]; rfl) (by decide) (by decide) (by have := hLS.out; simp <;> omega) ?_; intro v5 w5 hown5 hgr5 _; obtain ⟨A5, c5, rfl, -⟩ := own_open hown5; have hb5 : w5.heap[w.heap.size + 1]? = some (.cells C 96 (0, 0)) := (hgr5.block _ (by have := hGL.out; simp <;> omega) (rowNe hR.out.own HB.out (by decide))).trans (((Below.heap_alloc _ _ _ (by have := hGL.out; simp <;> omega)).trans (Below.heap_alloc _ _ _ hGL.out)).trans HB.out); have ht5 : w5.cell? ⟨w.heap.size + 1, 256, none⟩ = some (.slice A 1 cc) := (cell_of_row w5 _ 256 _ _ _ hb5).trans hR.out.top; have hf5 : w5.frozen? ⟨w.heap.size + 1, 256, none⟩ = false := (by simp [World.frozen?, hb5]); have hb6 := blk_set hb5 256 (.slice A5 2 c5); have hc6 : (w5.setCell ⟨w.heap.size + 1, 256, none⟩ (.slice A5 2 c5)).cell? ⟨w.heap.size + 1, 92, none⟩ = some (.slice none 0 0) := (cell_of_row _ _ 92 _ _ _ hb6).trans (by rw [Array.getElem?_setIfInBounds_ne (by decide)]; exact hR.out.h92); have hf6 : (w5.setCell ⟨w.heap.size + 1, 256, none⟩ (.slice A5 2 c5)).frozen? ⟨w.heap.size + 1, 92, none⟩ = false := (by simp [World.frozen?, hb6]); have hg6 := heap_lt hb6; have hb7 : ∀ ob : Obj, (((w5.setCell ⟨w.heap.size + 1, 256, none⟩ (.slice A5 2 c5)).alloc ob).drew).heap[w.heap.size + 1]? = some (.cells (C.setIfInBounds 256 (.slice A5 2 c5)) 96 (0, 0)) := (fun ob => (Below.heap_alloc _ _ _ hg6).trans hb6); have hc7 : ∀ ob : Obj, (((w5.setCell ⟨w.heap.size + 1, 256, none⟩ (.slice A5 2 c5)).alloc ob).drew).cell? ⟨w.heap.size + 1, 92, none⟩ = some (.slice none 0 0) := (fun ob => (cell_of_row _ _ 92 _ _ _ (hb7 ob)).trans ((by rw [Array.getElem?_setIfInBounds_ne (by decide)]; exact hR.out.h92))); have hf7 : ∀ ob : Obj, (((w5.setCell ⟨w.heap.size + 1, 256, none⟩ (.slice A5 2 c5)).alloc ob).drew).frozen? ⟨w.heap.size + 1, 92, none⟩ = false := (fun ob => by unfold World.frozen?; simp only [hb7 ob]; simp); have HB7 := Lib.hid hb7; clear hb7 hg6; have HB5 := Lib.hid hb5; have HB6 := Lib.hid hb6; have OW5 := Lib.hid hown5; have GR5 := Lib.hid hgr5; clear hb5 hb6 hown5 hgr5))
          go_roundw
          case rel => exact ⟨2, _, A5, c5, by omega, by simp, Lib.hid (hR.out.step (c := 92) (d := 92) OW5.out GR5.out hLS.out (by decide) (miss_ne (c := 92) rfl) rfl rfl (grownCap_ge _ _ _ _) _ (fun e => by injection e; omega) (.inr ⟨rfl, rfl, rfl⟩))⟩
          case measure => simp [intOf]
        · go_wp2
          go_ret
          exact ⟨w.heap.size + 1, rfl, by omega, hR.out.done, hR.out.low⟩
end Go.Proofs.YtlojlgcnhacleaaDoor
