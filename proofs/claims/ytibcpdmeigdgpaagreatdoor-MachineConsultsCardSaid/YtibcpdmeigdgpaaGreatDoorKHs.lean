/- The walk through the program's (*coder).term (not whole yet). The walk through the program's code.Encode: a clause's instructions. -/
import Derived.Test.YtibcpdmeigdgpaaGreatDoorKOrd
import Derived.Test.YtibcpdmeigdgpaaGreatDoorKHr
import Derived.Deep.CutBlock
import Derived.Deep.DeepCutAuto
import Derived.Deep.CutRange
import Derived.Deep.RegionHeld3
import Derived.Deep.RegionLaw
import Derived.Deep.AppendLies
import Derived.Test.YtibcpdmeigdgpaaGreatDoorKHh
import Derived.Deep.Onto
namespace Go.Proofs.YtibcpdmeigdgpaaGreatDoor
open Go.RowKit
structure Cd (w : World) (X mb B : Nat) (lv : Value) (l : List Ins) (vs : List Int) : Prop where
 box : w.heap[X]? = some (.cells #[lv, .map (some mb)] 77 (0, 0))
 own : IRw w B lv l
 im : IX w mb vs.length (slotM vs)
structure Kc (X B : Nat) (w w' : World) : Prop where
 low : Below B w w'
 keep : ∀ (b : Nat) (cs : Array Value) (t : TypeId) (m : Nat × Nat), w.heap[b]? = some (.cells cs t m) → t ≠ 55 → b ≠ X → w'.heap[b]? = some (.cells cs t m)
theorem Kc.of {X B : Nat} {w w' : World} (h : Kp B w w') : Kc X B w w' := ⟨h.low, fun b cs t m hb ht _ => h.keep b cs t m hb ht⟩
theorem Kc.trans {X B : Nat} {w w1 w2 : World} (h : Kc X B w w1) (k : Kc X B w1 w2) : Kc X B w w2 := ⟨h.low.trans k.low, fun b cs t m hb ht hx => k.keep b cs t m (h.keep b cs t m hb ht hx) ht hx⟩
theorem Kc.size {X B : Nat} {w w' : World} (h : Kc X B w w') : w.heap.size ≤ w'.heap.size := h.low.size
theorem Kc.tp {X B : Nat} {w w' : World} (h : Kc X B w w') (hX : ∃ cs m, w.heap[X]? = some (.cells cs 77 m)) {S : Nat → Prop} {t : T} {v : Value} (ht : TP w S t v) : TP w' S t v := ht.keep fun b cs f hS hb => ⟨h.keep b cs _ f hb (by decide) (by
 rintro rfl
 obtain ⟨cs', m, hX⟩ := hX
 rw [hX] at hb
 injection hb with hb
 injection hb with _ hb
 exact absurd hb (by decide)), hS⟩
def TermP (X mb B : Nat) (t : T) (l : List Ins) (vs : List Int) (w : World) (e : Ending) (w' : World) : Prop :=
 e = .returned (.tuple #[]) ∧ ∃ lv : Value, Cd w' X mb B lv (l ++ (codeT t vs).1) (codeT t vs).2 ∧ Kc X B w w'
def stepT (t : T) (vs : List Int) (x : Ins) (vs' : List Int) : Prop := match t with
 | .nil => False
 | .mk k n s m a => (k ≠ 4 ∧ codeT (.mk k n s m a) vs = ([x], vs')) ∨ (k = 4 ∧ x = ⟨6, (m : Int), s⟩ ∧ vs' = vs)
theorem Cd.below {w w' : World} {X mb B : Nat} {lv : Value} {l : List Ins} {vs : List Int} (h : Cd w X mb B lv l vs) (hb : Below w.heap.size w w') : Cd w' X mb B lv l vs :=
 ⟨(hb.block X (heap_lt h.box)).trans h.box, own_below h.own hb, h.im.keep (hb.block mb h.im.im.lt)⟩
theorem unfrozenX {w : World} {g : Nat} {cs : Array Value} {t : TypeId} (h : w.heap[g]? = some (.cells cs t (0, 0))) : ∀ i, w.frozen? ⟨g, i, none⟩ = false := fun i => by simp [World.frozen?, h]
theorem grown_map {wc X w' : World} {B : Nat} {e : TypeId} {size : Nat} {v : Value} {n : Nat} {xs : List Value} {mb k : Nat} {M : Int → Option Value} (hg : X.grownBy w' v.ownBlock) (ho : X.ownsRow B e size v n xs) (h : IX wc mb k M) (hb : Below wc.heap.size wc X) : w'.heap[mb]? = wc.heap[mb]? := by
 have h1 := hb.block mb h.im.lt
 refine (hg.block mb (Nat.lt_of_lt_of_le h.im.lt hb.size) fun e => ?_).trans h1
 obtain ⟨cs, f, hh⟩ := Go.Lib.ownsRow_kind ho _ e.symm
 obtain ⟨D, ⟨es, clock, hm, _⟩, _⟩ := h
 rw [h1, hm] at hh
 injection hh with hh
 cases hh
theorem cd_end {wc w5 : World} {X mb B : Nat} {lv v' : Value} {L : List Ins} {vs : List Int} {g : Nat} {tc : Array Value} (hx : w5.heap[X]? = some (.cells #[lv, .map (some mb)] 77 (0, 0))) (ho : IRw w5 B v' L) (hm : w5.heap[mb]? = wc.heap[mb]?) (hi : IX wc mb vs.length (slotM vs)) (hk : Kp B wc w5) (hBX : B ≤ X) (hXm : X ≠ mb)
 (ht : wc.heap[g]? = some (.cells tc 39 (0, 0))) : ∃ lv' : Value, Cd (w5.setCell ⟨X, 0, none⟩ v') X mb B lv' L vs ∧ Kc X B wc (w5.setCell ⟨X, 0, none⟩ v') ∧ (w5.setCell ⟨X, 0, none⟩ v').heap[g]? = some (.cells tc 39 (0, 0)) := by
 have far : ∀ b, b ≠ X → (w5.setCell ⟨X, 0, none⟩ v').heap[b]? = w5.heap[b]? := fun b hb => Below.heap_setCell _ _ _ _ hb
 have hne : g ≠ X := by
  rintro rfl
  have := hk.keep _ _ _ _ ht (by decide)
  rw [hx] at this
  injection this with this
  injection this with _ this
  exact absurd this (by decide)
 refine ⟨v', ⟨by simpa using blk_set hx 0 v', own_keep ho fun b hb => far b ?_, hi.keep ((far mb (fun e => hXm e.symm)).trans hm)⟩, ⟨hk.low.setCell (p := ⟨X, 0, none⟩) hBX v', fun b cs t m hb ht hbX => (far b hbX).trans (hk.keep b cs t m hb ht)⟩, (far g hne).trans (hk.keep _ _ _ _ ht (by decide))⟩
 rintro rfl
 obtain ⟨cs, f, hh⟩ := Go.Lib.ownsRow_kind ho _ hb
 rw [hx] at hh
 injection hh with hh
 injection hh with _ hh
 exact absurd hh (by decide)
set_option maxRecDepth 100000 in
set_option maxHeartbeats 8000000 in
theorem cterm_any : ∀ (t : T), t.ok → ∀ (X mb B : Nat) (lv : Value) (l : List Ins) (vs : List Int) (v : Value) (w : World) (S : Nat → Prop), TP w S t v → Cd w X mb B lv l vs → B ≤ X → X ≠ mb → B ≤ mb → l.length + t.nodes ≤ 50000 → vs.length + t.nodes ≤ 50000 →
 Calls Tryz.prog 24 #[.pointer (some ⟨X, 0, none⟩), v] w fun e w' => TermP X mb B t l vs w e w' := by
 intro t
 induction t with
 | nil => exact fun _ _ _ _ _ _ _ _ _ _ h => h.elim
 | mk k n s m a ih =>
  intro hok X mb B lv l vs v w S hv hcd hBX hXm hBm hl hlv
  obtain ⟨k', n', s', A, m', c, rfl⟩ := hv.agg
  obtain ⟨e0, e1, e2, rfl, hmc, hA, _⟩ := hv.args
  injection e0 with _ e0
  injection e1 with _ e1
  injection e2 with e2
  subst e0; subst e1; subst e2
  have HV := Lib.hid hv
  have HCD := Lib.hid hcd
  have HOK := Lib.hid hok
  have IH := Lib.hid ih
  have hm : m' < 4000 := hok.few
  have hXl := heap_lt hcd.box
  have HXm := Lib.hid hXm
  clear hv hcd hok ih hA hXm
  go_enter Tryz.func24, Tryz.ntmps24
  go_upto_block 0 with fail
  go_cut [5, 6] (fun _ _ wx => ∃ (x : Ins) (vs' : List Int), stepT (.mk k' n' s' m' a) vs x vs' ∧ wx.heap[w.heap.size + 1]? = some (.cells #[.int .i64 x.o, .int .i64 x.a, .string x.s] 55 (0, 0)) ∧ Cd wx X mb B lv l vs' ∧ Kc X B w wx ∧ wx.heap[w.heap.size]? = some (.cells #[.int .i64 k', .int .i64 n', .string s', .slice A m' c] 39 (0, 0)))
  case first =>
   have FIN := Lib.hid (show ∀ (x : Ins), stepT (.mk k' n' s' m' a) vs x vs → ∃ (y : Ins) (vs' : List Int), stepT (.mk k' n' s' m' a) vs y vs' ∧ ((w.alloc (Obj.cells #[.int .i64 k', .int .i64 n', .string s', .slice A m' c] 39)).alloc (Obj.cells #[.int .i64 x.o, .int .i64 x.a, .string x.s] 55)).heap[w.heap.size + 1]? = some (.cells #[.int .i64 y.o, .int .i64 y.a, .string y.s] 55 (0, 0)) ∧ Cd ((w.alloc (Obj.cells #[.int .i64 k', .int .i64 n', .string s', .slice A m' c] 39)).alloc (Obj.cells #[.int .i64 x.o, .int .i64 x.a, .string x.s] 55)) X mb B lv l vs' ∧ Kc X B w ((w.alloc (Obj.cells #[.int .i64 k', .int .i64 n', .string s', .slice A m' c] 39)).alloc (Obj.cells #[.int .i64 x.o, .int .i64 x.a, .string x.s] 55)) ∧ ((w.alloc (Obj.cells #[.int .i64 k', .int .i64 n', .string s', .slice A m' c] 39)).alloc (Obj.cells #[.int .i64 x.o, .int .i64 x.a, .string x.s] 55)).heap[w.heap.size]? = some (.cells #[.int .i64 k', .int .i64 n', .string s', .slice A m' c] 39 (0, 0)) from fun x hx => by
    have hb := belA (belA (Below.refl w.heap.size w) (Obj.cells #[.int .i64 k', .int .i64 n', .string s', .slice A m' c] 39)) (Obj.cells #[.int .i64 x.o, .int .i64 x.a, .string x.s] 55)
    exact ⟨x, vs, hx, heap_at _ _ (by simp), HCD.out.below hb, Kc.of (Kp.of hb (by omega)), (Below.heap_alloc _ _ _ (by simp)).trans (heap_alloc_new _ _)⟩)
   cases h1 : (k' == 1) with
   | true =>
    have hk1 : k' = 1 := by simpa using h1
    have hvar := HOK.out.var hk1
    have hi64 : I64 n' := ⟨by have := hvar.1; omega, by have := hvar.2.1; omega⟩
    have HX0 := heap_lt HCD.out.box
    obtain ⟨y0, y1⟩ : w.cell? ⟨X, 0, none⟩ = some lv ∧ w.cell? ⟨X, 1, none⟩ = some (.map (some mb)) := ⟨cell_of_row w X 0 _ _ _ HCD.out.box, cell_of_row w X 1 _ _ _ HCD.out.box⟩
    have zI : ∀ W : World, (zeroValue 3).run Tryz.prog W = .ok (.int .i64 0) W := fun W => by kernel_rfl
    cases hp : plN vs n' 0 with
    | some i =>
     have hrun : (Instr.lookup 75 (.map (some mb)) (.int .i64 n') true).run Tryz.prog ((w.alloc (Obj.cells #[.int .i64 k', .int .i64 n', .string s', .slice A m' c] 39)).alloc (Obj.cells #[.int .i64 6, .int .i64 (m' : Int), .string s'] 55)).drew = .ok (.tuple #[.int .i64 (i : Int), .bool true]) ((w.alloc (Obj.cells #[.int .i64 k', .int .i64 n', .string s', .slice A m' c] 39)).alloc (Obj.cells #[.int .i64 6, .int .i64 (m' : Int), .string s'] 55)).drew := by
      have hM := HCD.out.im.im
      have := (hM.keep (w' := ((w.alloc (Obj.cells #[.int .i64 k', .int .i64 n', .string s', .slice A m' c] 39)).alloc (Obj.cells #[.int .i64 6, .int .i64 (m' : Int), .string s'] 55)).drew) ((Below.heap_alloc _ _ _ (by have := hM.lt; simp; omega)).trans (Below.heap_alloc _ _ _ hM.lt))).look Tryz.underlying75 (zI _) hi64
      rw [this]
      simp [slotM, hp]
     have hst := FIN.out ⟨3, (i : Int), ⟨#[]⟩⟩ (.inl ⟨by omega, by subst hk1; simp only [codeT, hp]; rfl⟩)
     have HX := Lib.hid hst
     clear hst hp hvar hk1 zI
     go_wp2_with fail
     go_region
     go_wp2_with fail
     go_meet
     obtain ⟨y, vs2, p1, p2, p3, p4, p5⟩ := HX.out
     exact ⟨y, vs2, p1, p2, p3.below (Below.refl _ _).drew, ⟨p4.low.drew, p4.keep⟩, p5⟩
    | none =>
     have hno : n' ∉ vs := plN_none.1 hp
     obtain ⟨W4, hW4⟩ : ∃ W4, W4 = ((w.alloc (Obj.cells #[.int .i64 k', .int .i64 n', .string s', .slice A m' c] 39)).alloc (Obj.cells #[.int .i64 6, .int .i64 (m' : Int), .string s'] 55)).drew := ⟨_, rfl⟩
     have hrun : (Instr.lookup 75 (.map (some mb)) (.int .i64 n') true).run Tryz.prog ((w.alloc (Obj.cells #[.int .i64 k', .int .i64 n', .string s', .slice A m' c] 39)).alloc (Obj.cells #[.int .i64 6, .int .i64 (m' : Int), .string s'] 55)).drew = .ok (.tuple #[.int .i64 0, .bool false]) ((w.alloc (Obj.cells #[.int .i64 k', .int .i64 n', .string s', .slice A m' c] 39)).alloc (Obj.cells #[.int .i64 6, .int .i64 (m' : Int), .string s'] 55)).drew := by
      have hM := HCD.out.im.im
      have := (hM.keep (w' := ((w.alloc (Obj.cells #[.int .i64 k', .int .i64 n', .string s', .slice A m' c] 39)).alloc (Obj.cells #[.int .i64 6, .int .i64 (m' : Int), .string s'] 55)).drew) ((Below.heap_alloc _ _ _ (by have := hM.lt; simp; omega)).trans (Below.heap_alloc _ _ _ hM.lt))).look Tryz.underlying75 (zI _) hi64
      rw [this]
      simp [slotM, hp]
     have hlen : ∀ (ty : TypeId) (z : Int), (Builtin.len_ #[75] ty #[.map (some mb)]).run Tryz.prog ((w.alloc (Obj.cells #[.int .i64 k', .int .i64 n', .string s', .slice A m' c] 39)).alloc (Obj.cells #[.int .i64 3, .int .i64 z, .string ⟨#[]⟩] 55)).drew = .ok (.int .i64 (vs.length : Int)) ((w.alloc (Obj.cells #[.int .i64 k', .int .i64 n', .string s', .slice A m' c] 39)).alloc (Obj.cells #[.int .i64 3, .int .i64 z, .string ⟨#[]⟩] 55)).drew := fun ty z => by
      have hM := HCD.out.im
      exact (hM.keep (w' := ((w.alloc (Obj.cells #[.int .i64 k', .int .i64 n', .string s', .slice A m' c] 39)).alloc (Obj.cells #[.int .i64 3, .int .i64 z, .string ⟨#[]⟩] 55)).drew) ((Below.heap_alloc _ _ _ (by have := hM.im.lt; simp; omega)).trans (Below.heap_alloc _ _ _ hM.im.lt))).len Tryz.underlying75 ty
     have HIX := Lib.hid (show IX ((w.alloc (Obj.cells #[.int .i64 k', .int .i64 n', .string s', .slice A m' c] 39)).alloc (Obj.cells #[.int .i64 2, .int .i64 (vs.length : Int), .string ⟨#[]⟩] 55)).drew.drew mb vs.length (slotM vs) from HCD.out.im.keep ((Below.heap_alloc _ _ _ (by have := HCD.out.im.im.lt; simp; omega)).trans (Below.heap_alloc _ _ _ HCD.out.im.im.lt)))
     obtain ⟨w9, hup, hix9, htn9⟩ := HIX.out.store Tryz.underlying75 (by unfold maxLen; omega) hi64 (by simp [slotM, hp]) (.int .i64 (vs.length : Int))
     have HS2 := Lib.hid (show stepT (.mk k' n' s' m' a) vs ⟨2, (vs.length : Int), ⟨#[]⟩⟩ (vs ++ [n']) from .inl ⟨by omega, by subst hk1; simp only [codeT, hp]; rfl⟩)
     have HNO := Lib.hid hno
     have HIX9 := Lib.hid hix9
     have HTN9 := Lib.hid htn9
     clear hp hvar zI hW4 W4 hk1 hix9 htn9
     go_wp2_with fail
     go_region
     go_wp2_with fail
     go_region
     go_wp2_with fail
     go_meet
     have hb := ((belA (belA (Below.refl w.heap.size w) (Obj.cells #[.int .i64 k', .int .i64 n', .string s', .slice A m' c] 39)) (Obj.cells #[.int .i64 2, .int .i64 (vs.length : Int), .string ⟨#[]⟩] 55)).drew).drew
     have hml := HCD.out.im.im.lt
     have far := fun c hc => turned_block HTN9.out c hc
     have old : ∀ (b : Nat) (o : Obj), w.heap[b]? = some o → b ≠ mb → w9.heap[b]? = some o := fun b o hbo hbm => (far b hbm).trans ((hb.block b (heap_lt hbo)).trans hbo)
     have ncell : ∀ (b : Nat) (cs : Array Value) (ty : TypeId) (f : Nat × Nat), w.heap[b]? = some (.cells cs ty f) → b ≠ mb := fun b cs ty f hbo e => by
      subst e
      obtain ⟨D, ⟨es, clock, hh, _⟩, _⟩ := HCD.out.im
      rw [hbo] at hh
      injection hh with hh
      cases hh
     refine ⟨⟨2, (vs.length : Int), ⟨#[]⟩⟩, vs ++ [n'], HS2.out, (far _ (by omega)).trans (heap_at _ _ (by simp)), ⟨old _ _ HCD.out.box HXm.out, own_keep HCD.out.own fun g hg => ?_, ?_⟩, ⟨Go.Proofs.YtibcpdmeigdgpaaGreatDoor.Below.turned (B := B) (hb.mono (by omega)) HTN9.out hBm, fun b cs ty f hbo _ _ => old _ _ hbo (ncell _ _ _ _ hbo)⟩, (far _ (by omega)).trans ((Below.heap_alloc _ _ _ (by simp)).trans (heap_alloc_new _ _))⟩
     ·obtain ⟨cs, f, hh⟩ := Go.Lib.ownsRow_kind HCD.out.own _ hg
      rw [hh]
      exact old _ _ hh (ncell _ _ _ _ hh)
     ·have h1 := HIX9.out
      rw [slotM_put HNO.out] at h1
      rw [List.length_append]
      exact h1
   | false =>
    cases h2 : (k' == 2) with
    | true =>
     have hx := FIN.out ⟨4, n', ⟨#[]⟩⟩ (.inl (by
      have hk : k' = 2 := by simpa using h2
      subst hk
      exact ⟨by decide, rfl⟩))
     have HX := Lib.hid hx
     clear hx
     go_wp2_with fail
     go_meet
     exact HX.out
    | false =>
     cases h3 : (k' == 3) with
     | true =>
      have hx := FIN.out ⟨5, 0, s'⟩ (.inl (by
       have hk : k' = 3 := by simpa using h3
       subst hk
       exact ⟨by decide, rfl⟩))
      have HX := Lib.hid hx
      clear hx
      go_wp2_with fail
      go_meet
      exact HX.out
     | false =>
      have hx := FIN.out ⟨6, (m' : Int), s'⟩ (.inr (by
       have hk : k' = 4 := by
        rcases HOK.out.1.1 with h | h | h | h
        ·exact absurd h.1 (by simpa using h1)
        ·exact absurd h.1 (by simpa using h2)
        ·exact absurd h.1 (by simpa using h3)
        ·exact h.1
       exact ⟨hk, rfl, rfl⟩))
      have HX := Lib.hid hx
      clear hx
      go_wp2_with fail
      go_meet
      exact HX.out
  case rest =>
   obtain ⟨x, vs', hst, hxb, hcd, hkc, htb⟩ := hcut
   have HST := Lib.hid hst
   have KC := Lib.hid hkc
   have HTB := Lib.hid htb
   have OC := Lib.hid hcd.own
   have IMc := Lib.hid hcd.im
   have HCX := Lib.hid hcd.box
   have HXB := Lib.hid hxb
   have hwc := hkc.size
   have hpos : 0 < (T.mk k' n' s' m' a).nodes := HOK.out.1.pos
   obtain ⟨AL, cl, rfl, _, _, _⟩ := hcd.own.all
   have c0 := cell_of_row wc X 0 _ _ _ HCX.out
   obtain ⟨b0, b1, b2⟩ : wc.cell? ⟨w.heap.size + 1, 0, none⟩ = some (.int .i64 x.o) ∧ wc.cell? ⟨w.heap.size + 1, 1, none⟩ = some (.int .i64 x.a) ∧ wc.cell? ⟨w.heap.size + 1, 2, none⟩ = some (.string x.s) := ⟨cell_of_row wc _ 0 _ _ _ hxb, cell_of_row wc _ 1 _ _ _ hxb, cell_of_row wc _ 2 _ _ _ hxb⟩
   have hbl := heap_lt hxb
   have hXl2 := heap_lt HCX.out
   obtain ⟨itemI, jj1, jj2, jj3, jj4⟩ := elIns.hi
   clear hst hkc htb hcd hxb
   go_upto_region 13 with fail
   go_cut [] (fun wy => ∃ lv' : Value, Cd wy X mb B lv' (l ++ [x]) vs' ∧ Kc X B wc wy ∧ wy.heap[w.heap.size]? = some (.cells #[.int .i64 k', .int .i64 n', .string s', .slice A m' c] 39 (0, 0)))
   case first =>
    go_wp2_with fail
    refine wp_region_held_drew (S := fun w1 => True) (by kernel_rfl) ?Sr13 (fun hH0 => ?Br13)
    case Sr13 => (trivial)
    refine tkH 0 ?_
    try simp only [opD, Act.put, sA, sB, sC]
    refine tkH 1 ?_
    try simp only [opD, Act.put, sA, sB, sC]
    refine tkH 2 ?_
    try simp only [opD, Act.put, sA, sB, sC]
    refine tkH 3 ?_
    try simp only [opD, Act.put, sA, sB, sC]
    refine wpAnyH_ready (rs := [4, 5]) (by kernel_rfl) (by simp) ?_
    refine rdH (fun K hK => ?opq1) ?nxq2
    case opq1 =>
     go_simp
     refine hK.out _ _ trivial (fun hHq1 => ?Rq1)
     clear hK K
     try simp only [Act.put, sA, sB, sC]
     refine wpAnyH_ready (rs := [5]) (by kernel_rfl) (by simp) ?_
     refine rdH (fun K hK => ?opq4) ?nilq5
     case opq4 =>
      go_simp
      refine hK.out _ _ trivial (fun hHq4 => ?Rq4)
      clear hK K
      try simp only [Act.put, sA, sB, sC]
      refine wpAnyH_ready (rs := [6]) (by kernel_rfl) (by simp) ?_
      refine rdH (fun K hK => ?opq6) ?nilq7
      case opq6 =>
       go_simp
       refine hK.out _ _ trivial (fun hHq6 => ?Rq6)
       clear hK K
       try simp only [Act.put, sA, sB, sC]
       refine wpAnyH_ready (rs := [7]) (by kernel_rfl) (by simp) ?_
       refine rdH (fun K hK => ?opq8) ?nilq9
       case opq8 =>
        refine step_append_lies _ rfl _ _ _ rfl B 55 itemI (.agg #[.int .i64 0, .int .i64 0, .string ⟨#[]⟩]) 3 32 Tryz.underlying49 jj1 jj2 jj3 jj4 rfl (by omega) _ l.length _ rfl (own_below OC.out (by repeat (first | (with_reducible exact Below.refl _ _) | (with_reducible refine Below.drew ?_) | (with_reducible refine Below.alloc ?_ (by simp) _)))) ⟨wc.heap.size, 0, none⟩ 1 1 [.int .i64 x.o, .int .i64 x.a, .string x.s] rfl rfl (World.news_of_block (heap_at _ _ (by simp))) ?smq8 (by omega) (by unfold maxLen; omega) (by omega) (by simp; omega) _ rfl ?_
        case smq8 => (intro u hu; simp only [List.mem_cons, List.not_mem_nil, or_false] at hu; rcases hu with rfl | rfl | rfl <;> rfl)
        intro g1 cap1 w5 hown1 hg1 hat1 hlt1
        have K5 := Lib.hid ((Kp.of (w := wc) (by repeat (first | (with_reducible exact Below.refl _ _) | (with_reducible refine Below.drew ?_) | (with_reducible refine Below.alloc ?_ (by simp) _))) (by omega)).trans (Kp.grown hg1 (own_below OC.out (by repeat (first | (with_reducible exact Below.refl _ _) | (with_reducible refine Below.drew ?_) | (with_reducible refine Below.alloc ?_ (by simp) _)))) (by simp; omega)))
        have O5 := Lib.hid (show IRw w5 B (.slice (some ⟨g1, 0, none⟩) (l.length + 1) cap1) (l ++ [x]) by unfold IRw; rw [← insCells_app, List.length_append]; exact hown1)
        have X5 := Lib.hid (K5.out.keep _ _ _ _ HCX.out (by decide))
        have M5 := Lib.hid (show w5.heap[mb]? = wc.heap[mb]? from grown_map hg1 (own_below OC.out (by repeat (first | (with_reducible exact Below.refl _ _) | (with_reducible refine Below.drew ?_) | (with_reducible refine Below.alloc ?_ (by simp) _)))) IMc.out (by repeat (first | (with_reducible exact Below.refl _ _) | (with_reducible refine Below.drew ?_) | (with_reducible refine Below.alloc ?_ (by simp) _))))
        have c5 := cell_of_row w5 X 0 _ _ _ X5.out
        have f5 := unfrozenX X5.out
        clear hown1 hg1 hat1
        refine hK.out _ _ trivial (fun hHq8 => ?Rq8)
        clear hK K
        try simp only [Act.put, sA, sB, sC]
        refine tkH 8 ?_
        try simp only [opD, Act.put, sA, sB, sC]
        refine tkH 9 ?_
        try simp only [opD, Act.put, sA, sB, sC]
        refine wpAnyH_ready (rs := [10]) (by kernel_rfl) (by simp) ?_
        refine rdH (fun K hK => ?opzq10) ?nilzq10
        case opzq10 =>
         go_simp
         refine hK.out _ _ trivial (fun hHzq10 => ?Rzq10)
         clear hK K
         try simp only [Act.put, sA, sB, sC]
         refine wpAnyH_done (by kernel_rfl) ?_ _
         go_wp2_with fail
         go_meet
         exact cd_end X5.out O5.out M5.out IMc.out K5.out hBX HXm.out HTB.out
        case nilzq10 => exact AllReadyH.nil
       case nilq9 => exact AllReadyH.nil
      case nilq7 => exact AllReadyH.nil
     case nilq5 => exact AllReadyH.nil
    case nxq2 =>
     refine rdH (fun K hK => ?opq2) ?nilq3
     case opq2 =>
      go_simp
      refine hK.out _ _ trivial (fun hHq2 => ?Rq2)
      clear hK K
      try simp only [Act.put, sA, sB, sC]
      refine wpAnyH_ready (rs := [4, 6]) (by kernel_rfl) (by simp) ?_
      refine rdH (fun K hK => ?opq11) ?nxq12
      case opq11 =>
       go_simp
       refine hK.out _ _ trivial (fun hHq11 => ?Rq11)
       clear hK K
       try simp only [Act.put, sA, sB, sC]
       refine wpAnyH_ready (rs := [6]) (by kernel_rfl) (by simp) ?_
       refine rdH (fun K hK => ?opq14) ?nilq15
       case opq14 =>
        go_simp
        refine hK.out _ _ trivial (fun hHq14 => ?Rq14)
        clear hK K
        try simp only [Act.put, sA, sB, sC]
        refine wpAnyH_ready (rs := [7]) (by kernel_rfl) (by simp) ?_
        refine rdH (fun K hK => ?opq16) ?nilq17
        case opq16 =>
         refine step_append_lies _ rfl _ _ _ rfl B 55 itemI (.agg #[.int .i64 0, .int .i64 0, .string ⟨#[]⟩]) 3 32 Tryz.underlying49 jj1 jj2 jj3 jj4 rfl (by omega) _ l.length _ rfl (own_below OC.out (by repeat (first | (with_reducible exact Below.refl _ _) | (with_reducible refine Below.drew ?_) | (with_reducible refine Below.alloc ?_ (by simp) _)))) ⟨wc.heap.size, 0, none⟩ 1 1 [.int .i64 x.o, .int .i64 x.a, .string x.s] rfl rfl (World.news_of_block (heap_at _ _ (by simp))) ?smq16 (by omega) (by unfold maxLen; omega) (by omega) (by simp; omega) _ rfl ?_
         case smq16 => (intro u hu; simp only [List.mem_cons, List.not_mem_nil, or_false] at hu; rcases hu with rfl | rfl | rfl <;> rfl)
         intro g1 cap1 w5 hown1 hg1 hat1 hlt1
         have K5 := Lib.hid ((Kp.of (w := wc) (by repeat (first | (with_reducible exact Below.refl _ _) | (with_reducible refine Below.drew ?_) | (with_reducible refine Below.alloc ?_ (by simp) _))) (by omega)).trans (Kp.grown hg1 (own_below OC.out (by repeat (first | (with_reducible exact Below.refl _ _) | (with_reducible refine Below.drew ?_) | (with_reducible refine Below.alloc ?_ (by simp) _)))) (by simp; omega)))
         have O5 := Lib.hid (show IRw w5 B (.slice (some ⟨g1, 0, none⟩) (l.length + 1) cap1) (l ++ [x]) by unfold IRw; rw [← insCells_app, List.length_append]; exact hown1)
         have X5 := Lib.hid (K5.out.keep _ _ _ _ HCX.out (by decide))
         have M5 := Lib.hid (show w5.heap[mb]? = wc.heap[mb]? from grown_map hg1 (own_below OC.out (by repeat (first | (with_reducible exact Below.refl _ _) | (with_reducible refine Below.drew ?_) | (with_reducible refine Below.alloc ?_ (by simp) _)))) IMc.out (by repeat (first | (with_reducible exact Below.refl _ _) | (with_reducible refine Below.drew ?_) | (with_reducible refine Below.alloc ?_ (by simp) _))))
         have c5 := cell_of_row w5 X 0 _ _ _ X5.out
         have f5 := unfrozenX X5.out
         clear hown1 hg1 hat1
         refine hK.out _ _ trivial (fun hHq16 => ?Rq16)
         clear hK K
         try simp only [Act.put, sA, sB, sC]
         refine tkH 8 ?_
         try simp only [opD, Act.put, sA, sB, sC]
         refine tkH 9 ?_
         try simp only [opD, Act.put, sA, sB, sC]
         refine wpAnyH_ready (rs := [10]) (by kernel_rfl) (by simp) ?_
         refine rdH (fun K hK => ?opzq18) ?nilzq18
         case opzq18 =>
          go_simp
          refine hK.out _ _ trivial (fun hHzq18 => ?Rzq18)
          clear hK K
          try simp only [Act.put, sA, sB, sC]
          refine wpAnyH_done (by kernel_rfl) ?_ _
          go_wp2_with fail
          go_meet
          exact cd_end X5.out O5.out M5.out IMc.out K5.out hBX HXm.out HTB.out
         case nilzq18 => exact AllReadyH.nil
        case nilq17 => exact AllReadyH.nil
       case nilq15 => exact AllReadyH.nil
      case nxq12 =>
       refine rdH (fun K hK => ?opq12) ?nilq13
       case opq12 =>
        go_simp
        refine hK.out _ _ trivial (fun hHq12 => ?Rq12)
        clear hK K
        try simp only [Act.put, sA, sB, sC]
        refine wpAnyH_ready (rs := [4]) (by kernel_rfl) (by simp) ?_
        refine rdH (fun K hK => ?opq19) ?nilq20
        case opq19 =>
         go_simp
         refine hK.out _ _ trivial (fun hHq19 => ?Rq19)
         clear hK K
         try simp only [Act.put, sA, sB, sC]
         refine wpAnyH_ready (rs := [7]) (by kernel_rfl) (by simp) ?_
         refine rdH (fun K hK => ?opq21) ?nilq22
         case opq21 =>
          refine step_append_lies _ rfl _ _ _ rfl B 55 itemI (.agg #[.int .i64 0, .int .i64 0, .string ⟨#[]⟩]) 3 32 Tryz.underlying49 jj1 jj2 jj3 jj4 rfl (by omega) _ l.length _ rfl (own_below OC.out (by repeat (first | (with_reducible exact Below.refl _ _) | (with_reducible refine Below.drew ?_) | (with_reducible refine Below.alloc ?_ (by simp) _)))) ⟨wc.heap.size, 0, none⟩ 1 1 [.int .i64 x.o, .int .i64 x.a, .string x.s] rfl rfl (World.news_of_block (heap_at _ _ (by simp))) ?smq21 (by omega) (by unfold maxLen; omega) (by omega) (by simp; omega) _ rfl ?_
          case smq21 => (intro u hu; simp only [List.mem_cons, List.not_mem_nil, or_false] at hu; rcases hu with rfl | rfl | rfl <;> rfl)
          intro g1 cap1 w5 hown1 hg1 hat1 hlt1
          have K5 := Lib.hid ((Kp.of (w := wc) (by repeat (first | (with_reducible exact Below.refl _ _) | (with_reducible refine Below.drew ?_) | (with_reducible refine Below.alloc ?_ (by simp) _))) (by omega)).trans (Kp.grown hg1 (own_below OC.out (by repeat (first | (with_reducible exact Below.refl _ _) | (with_reducible refine Below.drew ?_) | (with_reducible refine Below.alloc ?_ (by simp) _)))) (by simp; omega)))
          have O5 := Lib.hid (show IRw w5 B (.slice (some ⟨g1, 0, none⟩) (l.length + 1) cap1) (l ++ [x]) by unfold IRw; rw [← insCells_app, List.length_append]; exact hown1)
          have X5 := Lib.hid (K5.out.keep _ _ _ _ HCX.out (by decide))
          have M5 := Lib.hid (show w5.heap[mb]? = wc.heap[mb]? from grown_map hg1 (own_below OC.out (by repeat (first | (with_reducible exact Below.refl _ _) | (with_reducible refine Below.drew ?_) | (with_reducible refine Below.alloc ?_ (by simp) _)))) IMc.out (by repeat (first | (with_reducible exact Below.refl _ _) | (with_reducible refine Below.drew ?_) | (with_reducible refine Below.alloc ?_ (by simp) _))))
          have c5 := cell_of_row w5 X 0 _ _ _ X5.out
          have f5 := unfrozenX X5.out
          clear hown1 hg1 hat1
          refine hK.out _ _ trivial (fun hHq21 => ?Rq21)
          clear hK K
          try simp only [Act.put, sA, sB, sC]
          refine tkH 8 ?_
          try simp only [opD, Act.put, sA, sB, sC]
          refine tkH 9 ?_
          try simp only [opD, Act.put, sA, sB, sC]
          refine wpAnyH_ready (rs := [10]) (by kernel_rfl) (by simp) ?_
          refine rdH (fun K hK => ?opzq23) ?nilzq23
          case opzq23 =>
           go_simp
           refine hK.out _ _ trivial (fun hHzq23 => ?Rzq23)
           clear hK K
           try simp only [Act.put, sA, sB, sC]
           refine wpAnyH_done (by kernel_rfl) ?_ _
           go_wp2_with fail
           go_meet
           exact cd_end X5.out O5.out M5.out IMc.out K5.out hBX HXm.out HTB.out
          case nilzq23 => exact AllReadyH.nil
         case nilq22 => exact AllReadyH.nil
        case nilq20 => exact AllReadyH.nil
       case nilq13 => exact AllReadyH.nil
     case nilq3 => exact AllReadyH.nil
   case rest =>
    clear c0 b0 b1 b2
    obtain ⟨lv', hcd, hk, htb⟩ := hcut
    have CD := Lib.hid hcd
    have K2 := Lib.hid (KC.out.trans hk)
    have HT2 := Lib.hid htb
    have hl2 := heap_lt htb
    obtain ⟨x0, x1, x2, x3⟩ := box4t htb
    clear hcd hk htb
    cases h4 : (k' == 4) with
    | false =>
     have HC := Lib.hid (show codeT (.mk k' n' s' m' a) vs = ([x], vs') by
      rcases HST.out with ⟨_, h⟩ | ⟨h, _⟩
      ·exact h
      ·rw [h] at h4; cases h4)
     go_wp2_with fail
     go_end0
     exact ⟨rfl, lv', by rw [HC.out]; exact CD.out, K2.out⟩
    | true =>
     have hk4 : k' = 4 := by simpa using h4
     subst hk4
     obtain ⟨hx6, hvv⟩ : x = ⟨6, (m' : Int), s'⟩ ∧ vs' = vs := by
      rcases HST.out with ⟨h, _⟩ | ⟨_, h⟩
      ·exact absurd rfl h
      ·exact h
     subst hx6
     subst hvv
     obtain ⟨F, hF⟩ : ∃ F : Nat → List Ins × List Int, ∀ q, F q = foldC q (fun i => codeT (a i)) ([⟨6, (m' : Int), s'⟩], vs') := ⟨_, fun _ => rfl⟩
     have HC := Lib.hid (show codeT (.mk 4 n' s' m' a) vs' = F m' from (hF m').symm)
     have HF0 := Lib.hid (show F 0 = ([⟨6, (m' : Int), s'⟩], vs') from hF 0)
     have HFS := Lib.hid (show ∀ q, F (q + 1) = ((F q).1 ++ (codeT (a q) (F q).2).1, (codeT (a q) (F q).2).2) from fun q => by rw [hF, hF]; rfl)
     have HFL := Lib.hid (show ∀ q, q ≤ m' → (F q).1.length = 1 + sumTo q (fun i => (a i).nodes) ∧ (F q).2.length ≤ vs'.length + (1 + sumTo q (fun i => (a i).nodes)) from by
      intro q
      induction q with
      | zero => intro _; rw [hF]; simp [foldC, sumTo]
      | succ q ihq =>
       intro hq
       obtain ⟨i1, i2⟩ := ihq (by omega)
       obtain ⟨j1, j2⟩ := codeT_len (a q) ((HOK.out.arg (by omega)).1.kinds) (F q).2
       rw [HFS.out]
       simp only [sumTo, List.length_append]
       exact ⟨by omega, by omega⟩)
     have HSum := Lib.hid (show ∀ q, q < m' → 1 + sumTo q (fun i => (a i).nodes) + (a q).nodes ≤ (T.mk 4 n' s' m' a).nodes from fun q hq => by
      have := sumTo_le (fun i => (a i).nodes) (show q + 1 ≤ m' by omega)
      simp only [sumTo] at this
      simp only [T.nodes]
      omega)
     have HCX0 := Lib.hid (show ∃ cs m, w.heap[X]? = some (.cells cs 77 m) from ⟨_, _, HCD.out.box⟩)
     clear hF h4
     go_wp2_with fail
     go_loopw [8, 73] (fun _ iv wr => ∃ (i : Nat) (lq : Value), iv = .int .i64 (i : Int) ∧ i ≤ m' ∧ Cd wr X mb B lq (l ++ (F i).1) (F i).2 ∧ Kc X B w wr ∧ wr.heap[w.heap.size]? = some (.cells #[.int .i64 4, .int .i64 n', .string s', .slice A m' c] 39 (0, 0))) (fun _ iv _ => m' - (intOf iv).toNat)
     case atStart => exact ⟨0, lv', rfl, Nat.zero_le _, by rw [HF0.out]; exact CD.out, K2.out, HT2.out⟩
     case round =>
      obtain ⟨i, lq, rfl, hi, hcd, hk, hbox⟩ := hrel
      have CD3 := Lib.hid hcd
      have K3 := Lib.hid hk
      have HB3 := Lib.hid hbox
      have hws := hk.size
      clear hcd hk hbox
      by_cases him : i < m'
      ·have him' : (i : Int) < (m' : Int) := by omega
       obtain ⟨_, _, _, _, _, _, hargs⟩ := (K3.out.tp HCX0.out HV.out).args
       obtain ⟨g, k0, k1, k2, A0, m0, c0, rfl, hgS, hg, d0, d1, d2, d3, ht⟩ := hargs i him
       have hs1 := HSum.out i him
       obtain ⟨f1, f2⟩ := HFL.out i (by omega)
       have BA := Lib.hid ((Below.refl wr.heap.size wr).alloc (Nat.le_refl _) (Obj.cells #[.int .i64 k0, .int .i64 k1, .string k2, .slice A0 m0 c0] 39))
       have CI := Lib.hid (IH.out i (HOK.out.arg him) X mb B lq (l ++ (F i).1) (F i).2 _ _ S (ht.below BA.out) (CD3.out.below BA.out) hBX HXm.out hBm (by rw [List.length_append, f1]; omega) (by omega))
       clear hargs ht f1 f2 hs1
       go_wp2_with fail
       refine CI.out.mono ?_
       rintro e w2 ⟨rfl, lv3, hcd3, hk3⟩
       have CD4 := Lib.hid (show Cd w2 X mb B lv3 (l ++ (F (i + 1)).1) (F (i + 1)).2 by rw [HFS.out, ← List.append_assoc]; exact hcd3)
       have KA := Lib.hid ((Kc.of (X := X) (Kp.of BA.out (by have := K3.out.size; omega))).trans hk3)
       have K4 := Lib.hid (K3.out.trans KA.out)
       have HB4 := Lib.hid (KA.out.keep _ _ _ _ HB3.out (by decide) (by omega))
       clear hcd3 hk3 CI
       go_wp2_with fail
       go_roundw
       case rel => exact ⟨i + 1, lv3, by go_num, him, CD4.out, K4.out, HB4.out⟩
       case measure => simp [intOf]; omega
      ·have him' : ¬ (i : Int) < (m' : Int) := by omega
       have hin : i = m' := by omega
       have E := Lib.hid (show F i = F m' by rw [hin])
       clear hin
       go_wp2_with fail
       go_end0
       exact ⟨rfl, lq, by rw [HC.out, ← E.out]; exact CD3.out, K3.out⟩
end Go.Proofs.YtibcpdmeigdgpaaGreatDoor
namespace Go.Proofs.YtibcpdmeigdgpaaGreatDoor
open Go.RowKit
theorem head_own {w : World} {B g c : Nat} {l : List Ins} (h : IRw w B (.slice (some ⟨g, 0, none⟩) (⟨1, 0, ⟨#[]⟩⟩ :: l : List Ins).length c) (⟨1, 0, ⟨#[]⟩⟩ :: l)) (n : Int) : IRw (w.setCell ⟨g, 1, none⟩ (.int .i64 n)) B (.slice (some ⟨g, 0, none⟩) (⟨1, n, ⟨#[]⟩⟩ :: l : List Ins).length c) (⟨1, n, ⟨#[]⟩⟩ :: l) := by
 have := setCells_own h [.int .i64 n] (o := 1) (by simp only [List.length_cons, List.length_nil]; omega)
 exact this
set_option maxRecDepth 100000 in
set_option maxHeartbeats 8000000 in
theorem pencode_any {th : T} {gs : List T} {w : World} {S S' P : Nat → Prop} {B' : Nat} {hv gv : Value} {qs : List Q6} (hok : th.ok) (hgok : ∀ g ∈ gs, g.ok) (hth : TP w S th hv) (hgs : TL w B' S' P gv gs qs) (hfew : nodesL gs ≤ 7000) (hfew2 : gs.length ≤ 7000) :
 Calls Tryz.prog 12 #[hv, gv] w fun e w' => EncP th gs w e w' := by
 obtain ⟨q0, q1, q2, q3, q4, q5, rfl⟩ := hth.agg
 obtain ⟨A, c, rfl, hc, hA, hx⟩ := hgs.all
 have HTH := Lib.hid hth
 have HGS := Lib.hid hgs
 have HOK := Lib.hid hok
 have HGO := Lib.hid hgok
 have hn1 : th.nodes ≤ 4000 := hok.2
 obtain ⟨W, hW⟩ : ∃ W, W = (((w.alloc (Obj.cells #[.int .i64 q0, .int .i64 q1, .string q2, .slice q3 q4 q5] 39)).alloc (Obj.cells #[.int .i64 1, .int .i64 0, .string ⟨#[]⟩] 55)).alloc (.map #[] 0)).alloc (Obj.cells #[.slice (some ⟨w.heap.size + 1, 0, none⟩) 1 1, .map (some (w.heap.size + 2))] 77) := ⟨_, rfl⟩
 have HW := Lib.hid hW
 have BX := Lib.hid (show Below w.heap.size w W by rw [hW]; exact belA (belA (belA (belA (Below.refl _ _) _) _) _) _)
 have CD := Lib.hid (show Cd W (w.heap.size + 3) (w.heap.size + 2) (w.heap.size + 1) (.slice (some ⟨w.heap.size + 1, 0, none⟩) 1 1) [⟨1, 0, ⟨#[]⟩⟩] [] by
  rw [hW]
  refine ⟨heap_at _ _ (by simp), ⟨rfl, .inr ⟨_, 1, _, rfl, by omega, ((Below.heap_alloc _ _ _ (by simp)).trans (Below.heap_alloc _ _ _ (by simp))).trans (heap_at _ _ (by simp)), Nat.le_refl _, by simp [maxLen], rfl, by simp [insCells, Ins.cells]⟩⟩, ?_⟩
  have hm := IX.made ((w.alloc (Obj.cells #[.int .i64 q0, .int .i64 q1, .string q2, .slice q3 q4 q5] 39)).alloc (Obj.cells #[.int .i64 1, .int .i64 0, .string ⟨#[]⟩] 55))
  have e : slotM [] = fun _ => none := rfl
  rw [e]
  refine IX.keep (by simpa using hm) ?_
  exact Below.heap_alloc _ _ _ (by simp))
 have C0 := Lib.hid (cterm_any th hok (w.heap.size + 3) (w.heap.size + 2) (w.heap.size + 1) _ [⟨1, 0, ⟨#[]⟩⟩] [] _ W S (HTH.out.below BX.out) CD.out (by omega) (by omega) (by omega) (by simp; omega) (by simp; omega))
 have MK : ∀ W : World, (Instr.makeMap 75 none).run Tryz.prog W = .ok (.map (some W.heap.size)) (W.alloc (.map #[] 0)) := fun W => run_makeMap _ W
 clear hth hgs hok hgok hx hW
 go_enter Tryz.func12, Tryz.ntmps12
 go_wp2_with fail
 rw [← HW.out]
 refine C0.out.mono ?_
 rintro e w1 ⟨rfl, lv1, hcd1, hk1⟩
 have B1 := Lib.hid (BX.out.trans (hk1.low.mono (Nat.le_succ _)))
 obtain ⟨r0, hr0⟩ : ∃ r0, r0 = codeT th [] := ⟨_, rfl⟩
 have HR0 := Lib.hid hr0
 have HRL := Lib.hid (show r0.1.length ≤ 4000 ∧ r0.2.length ≤ 4000 by
  obtain ⟨j1, j2⟩ := codeT_len th HOK.out.1.kinds []
  rw [hr0]
  simp at j2
  exact ⟨by omega, by omega⟩)
 rw [← hr0] at hcd1
 have C1 := Lib.hid hcd1
 clear hcd1 hk1 C0 CD hr0 HW BX MK
 go_wp2_with fail
 go_loopw [18] (fun iv wr => ∃ (i : Nat) (lq : Value), iv = .int .i64 (i : Int) ∧ i ≤ gs.length ∧ Cd wr (w.heap.size + 3) (w.heap.size + 2) (w.heap.size + 1) lq (⟨1, 0, ⟨#[]⟩⟩ :: (codeG (gs.take i) r0).1) (codeG (gs.take i) r0).2 ∧ Below w.heap.size w wr) (fun iv _ => gs.length - (intOf iv).toNat)
 case atStart => exact ⟨0, lv1, rfl, Nat.zero_le _, C1.out, B1.out⟩
 case round =>
  clear C1 B1
  obtain ⟨i, lq, rfl, hi, hcd, hb⟩ := hrel
  have HLen := Lib.hid (show (codeG (gs.take i) r0).1.length + (nodesL gs - nodesL (gs.take i)) ≤ 19000 ∧ (codeG (gs.take i) r0).2.length + (nodesL gs - nodesL (gs.take i)) ≤ 19000 by
   obtain ⟨j1, j2⟩ := codeG_len (gs.take i) r0 fun x hx => (HGO.out x (List.mem_of_mem_take hx)).1.kinds
   have h1 : (gs.take i).length ≤ gs.length := by rw [List.length_take]; omega
   have h2 : nodesL gs = nodesL (gs.take i) + nodesL (gs.drop i) := by rw [← nodesL_app, List.take_append_drop]
   have h3 := HRL.out
   omega)
  obtain ⟨r2, hr2⟩ : ∃ r2, r2 = codeG (gs.take i) r0 := ⟨_, rfl⟩
  rw [← hr2] at hcd HLen
  have HR2 := Lib.hid hr2
  obtain ⟨l2, hl2⟩ : ∃ l2 : List Ins, l2 = ⟨1, 0, ⟨#[]⟩⟩ :: r2.1 := ⟨_, rfl⟩
  have HL2 := Lib.hid hl2
  have HL2N := Lib.hid (show l2.length = r2.1.length + 1 by rw [hl2]; simp)
  have hl2b : l2.length ≤ 19001 := by have := HL2N.out; have := HLen.out.1; omega
  rw [← hl2] at hcd
  have C2 := Lib.hid hcd
  have B2 := Lib.hid hb
  have hw2 := hb.size
  have hL1 : r2.1.length ≤ 19000 := by have := HLen.out.1; omega
  have hL2 : r2.2.length ≤ 19000 := by have := HLen.out.2; omega
  obtain ⟨AL, cl, rfl, _, _, _⟩ := hcd.own.all
  have c0 := cell_of_row wr (w.heap.size + 3) 0 _ _ _ C2.out.box
  have c1 := cell_of_row wr (w.heap.size + 3) 1 _ _ _ C2.out.box
  have hXl := heap_lt C2.out.box
  have f2 := unfrozenX C2.out.box
  clear hcd hb hr2 hl2
  by_cases hig : i < gs.length
  ·have hig' : (i : Int) < (gs.length : Int) := by omega
   obtain ⟨g, q, hA', _, hgl, _, d0, d1, d2, d3, ht⟩ := (HGS.out.below B2.out).at_ rfl hig
   subst hA'
   have O2 := Lib.hid C2.out.own
   go_wp2_with (at_builtin; go_must (refine wpList_append_at _ rfl _ _ _ rfl elIns (w.heap.size + 1) _ l2.length (insCells l2) rfl ((O2.out.alloc _).alloc _) (some ⟨wr.heap.size + 1, 0, none⟩) 1 1 (insCells [⟨7, 0, ⟨#[]⟩⟩]) rfl (fun h => by cases h) (Nat.le_refl _) rfl (fun _ => ⟨_, 0, rfl, fun j u hu => ?_⟩) (insCells_small _) (by omega) (by unfold maxLen; omega) (by simp; omega) ?_))
   ·simpa [insCells, Ins.cells] using hu
   intro v3 w3 hown3 hg3 hat3
   obtain ⟨l3, hl3⟩ : ∃ l3, l3 = l2 ++ [⟨7, 0, ⟨#[]⟩⟩] := ⟨_, rfl⟩
   have HL3 := Lib.hid hl3
   have HL3N := Lib.hid (show l3.length = l2.length + 1 by rw [hl3]; simp)
   have O3 := Lib.hid (show IRw w3 (w.heap.size + 1) v3 l3 by
    unfold IRw
    rw [hl3, ← insCells_app, List.length_append]
    exact hown3)
   obtain ⟨W2, hW2⟩ : ∃ W2, W2 = (wr.alloc (Obj.cells #[.int .i64 q.k, .int .i64 q.n, .string q.s, .slice q.A q.m q.c] 39)).alloc (Obj.cells #[.int .i64 7, .int .i64 0, .string ⟨#[]⟩] 55) := ⟨_, rfl⟩
   have BW := Lib.hid (show Below wr.heap.size wr W2 by rw [hW2]; exact belA (belA (Below.refl _ _) _) _)
   rw [← hW2] at hg3
   have OW := Lib.hid (show IRw W2 (w.heap.size + 1) _ l2 from own_below O2.out BW.out)
   have KW := Lib.hid (Kp.grown hg3 OW.out (by have := BW.out.size; omega))
   have I2 := Lib.hid (C2.out.im.keep (BW.out.block _ C2.out.im.im.lt))
   have X3 := Lib.hid (KW.out.keep _ _ _ _ ((BW.out.block _ hXl).trans C2.out.box) (by decide))
   have G2 := Lib.hid (show W2.heap[wr.heap.size]? = some (.cells #[.int .i64 q.k, .int .i64 q.n, .string q.s, .slice q.A q.m q.c] 39 (0, 0)) by rw [hW2]; exact (Below.heap_alloc _ _ _ (by simp)).trans (heap_alloc_new _ _))
   have c3 := cell_of_row w3 (w.heap.size + 3) 0 _ _ _ X3.out
   have f3 := unfrozenX X3.out
   obtain ⟨A3, cp3, rfl, _, _, _⟩ := O3.out.all
   obtain ⟨lv4, hcd4, hk4, hg4⟩ := cd_end (vs := r2.2) X3.out O3.out (grown_map hg3 OW.out I2.out (Below.refl _ _)) I2.out KW.out (by omega) (by omega) G2.out
   obtain ⟨w4, hw4⟩ : ∃ w4, w4 = w3.setCell ⟨w.heap.size + 3, 0, none⟩ (.slice A3 l3.length cp3) := ⟨_, rfl⟩
   obtain ⟨x0, x1, x2, x3⟩ := box4t hg4
   rw [← hw4] at hcd4 hk4 hg4
   have HW4 := Lib.hid hw4
   have C4 := Lib.hid hcd4
   have B4 := Lib.hid (B2.out.trans ((BW.out.mono (by omega)).trans (hk4.low.mono (Nat.le_succ _))))
   obtain ⟨t5, ht5⟩ : ∃ t5, t5 = gs[i]'hig := ⟨_, rfl⟩
   have HT5 := Lib.hid ht5
   have hgn := HGO.out _ (List.getElem_mem hig)
   rw [← ht5] at hgn
   have TP4 := Lib.hid (show TP w4 _ t5 q.val from hk4.tp ⟨_, _, (BW.out.block _ hXl).trans C2.out.box⟩ (by rw [ht5]; exact ht.below BW.out))
   have hgn2 : t5.nodes ≤ 4000 := hgn.2
   have CI := Lib.hid (cterm_any t5 hgn (w.heap.size + 3) (w.heap.size + 2) (w.heap.size + 1) _ l3 r2.2 q.val w4 _ TP4.out C4.out (by omega) (by omega) (by omega) (by have := HL3N.out; omega) (by omega))
   clear hown3 hg3 hat3 hl3 hW2 hw4 hcd4 hk4 hg4 hgn ht ht5 d0 d1 d2 d3
   go_wp2_with fail
   have CI2 := CI.out
   rw [HW4.out] at CI2
   refine CI2.mono ?_
   rintro e w5 ⟨rfl, lv5, hcd5, hk5⟩
   have C5 := Lib.hid (show Cd w5 (w.heap.size + 3) (w.heap.size + 2) (w.heap.size + 1) lv5 (⟨1, 0, ⟨#[]⟩⟩ :: (codeG (gs.take (i + 1)) r0).1) (codeG (gs.take (i + 1)) r0).2 by
    rw [List.take_succ_eq_append_getElem hig, codeG_snoc, ← HR2.out, ← HT5.out]
    rw [HL3.out, HL2.out] at hcd5
    simpa using hcd5)
   have B5 := Lib.hid (show Below w.heap.size w w5 by
    rw [← HW4.out] at hk5
    exact B4.out.trans (hk5.low.mono (Nat.le_succ _)))
   clear hcd5 hk5 CI2 CI x0 x1 x2 x3
   go_wp2_with fail
   go_roundw
   case rel => exact ⟨i + 1, lv5, by go_num, hig, C5.out, B5.out⟩
   case measure => simp [intOf]; omega
  ·have hig' : ¬ (i : Int) < (gs.length : Int) := by omega
   have hin : i = gs.length := by omega
   have HE := Lib.hid (show r2 = codeG gs (codeT th []) by rw [HR2.out, hin, List.take_length, HR0.out])
   obtain ⟨n, hn⟩ : ∃ n, n = r2.2.length := ⟨_, rfl⟩
   have HN := Lib.hid hn
   have hpos : 0 < l2.length := by have := HL2N.out; omega
   have hposi : (0 : Int) < (l2.length : Int) := by omega
   obtain ⟨A', c', he, _, _, _, hx⟩ := own_open C2.out.own
   injection he with e1 _ e3
   obtain ⟨g0, cur, hA', _, hh0, _⟩ := hx hpos
   rw [hA'] at e1
   subst e1
   subst e3
   have hgX : w.heap.size + 3 ≠ g0 := by
    intro e
    have h1 := C2.out.box
    rw [e, hh0] at h1
    injection h1 with h1
    injection h1 with _ h1 _
    exact absurd h1 (by decide)
   have hgm : w.heap.size + 2 ≠ g0 := by
    intro e
    obtain ⟨D, ⟨es, clock, hm, _⟩, _⟩ := C2.out.im
    rw [e, hh0] at hm
    injection hm with hm
    cases hm
   obtain ⟨_, e2, _, hcl⟩ := insrow (i := 0) C2.out.own rfl hpos
   injection e2 with e2
   injection e2 with e2 _
   subst e2
   have d1 := hcl 1 (by omega)
   have f1 := unfrozenX hh0
   have hlen : ∀ ty : TypeId, (Builtin.len_ #[75] ty #[.map (some (w.heap.size + 2))]).run Tryz.prog wr.drew = .ok (.int .i64 (n : Int)) wr.drew := fun ty => by
    rw [hn]
    exact (C2.out.im.keep (w' := wr.drew) rfl).len Tryz.underlying75 ty
   have d1' : ∃ u, wr.cell? ⟨g0, 1, none⟩ = some (.int .i64 u) := by
    rw [d1]
    rw [show l2[0] = (⟨1, 0, ⟨#[]⟩⟩ : Ins) by simp [HL2.out]]
    exact ⟨0, rfl⟩
   obtain ⟨u1, d1'⟩ := d1'
   obtain ⟨A5, c5, hA5⟩ : ∃ (A : Option Addr) (c : Nat), True := ⟨none, 0, trivial⟩
   have HH0 := Lib.hid hh0
   clear hx hcl hin hn d1 hA5 hh0
   go_wp2_with fail
   go_region
   obtain ⟨l3, hl3⟩ : ∃ l3 : List Ins, l3 = ⟨1, (n : Int), ⟨#[]⟩⟩ :: r2.1 := ⟨_, rfl⟩
   have O3 := Lib.hid (show IRw (wr.setCell ⟨g0, 1, none⟩ (.int .i64 (n : Int))) (w.heap.size + 1) (.slice (some ⟨g0, 0, none⟩) l2.length cl) l3 by
    have := C2.out.own
    rw [HL2.out] at this ⊢
    rw [hl3]
    exact head_own this _)
   have HL3 := Lib.hid hl3
   have HL3N := Lib.hid (show l3.length = l2.length by rw [hl3, HL2.out]; simp)
   have OO3 := Lib.hid (show (wr.setCell ⟨g0, 1, none⟩ (.int .i64 (n : Int))).ownsRow (w.heap.size + 1) 55 3 (.slice (some ⟨g0, 0, none⟩) l2.length cl) l2.length (insCells l3) by
    have := O3.out
    unfold IRw at this
    rw [HL3N.out] at this
    exact this)
   clear hl3
   go_wp2_with (at_builtin; go_must (refine wpList_append_at _ rfl _ _ _ rfl elIns (w.heap.size + 1) _ l2.length (insCells l3) rfl (own_below OO3.out ((Below.refl _ _).alloc (Nat.le_refl _) _).drew) (some ⟨wr.heap.size, 0, none⟩) 1 1 (insCells [⟨8, 0, ⟨#[]⟩⟩]) rfl (fun h => by cases h) (Nat.le_refl _) rfl (fun _ => ⟨_, 0, rfl, fun j u hu => ?_⟩) (insCells_small _) (by omega) (by unfold maxLen; omega) (by simp; omega) ?_))
   ·have hj : [Value.int .i64 8, .int .i64 0, .string ⟨#[]⟩][j]? = some u := hu
    have hb := heap_at (wr.setCell ⟨g0, 1, none⟩ (.int .i64 (n : Int))) (g := wr.heap.size) (Obj.cells #[.int .i64 8, .int .i64 0, .string ⟨#[]⟩] 55) (by simp)
    rw [World.cell?_drew, Nat.zero_add, cell_of_row _ _ j _ _ _ hb]
    simpa using hj
   intro v6 w6 hown6 hg6 hat6
   have hZ0 : w.heap.size + 1 ≤ g0 := (C2.out.own.lt g0 rfl).1
   have BZ := Lib.hid (show Below (w.heap.size + 1) wr ((wr.setCell ⟨g0, 1, none⟩ (.int .i64 (n : Int))).alloc (Obj.cells #[.int .i64 8, .int .i64 0, .string ⟨#[]⟩] 55)).drew from
    (((Below.refl _ _).setCell (p := ⟨g0, 1, none⟩) hZ0 _).alloc (by simp; omega) _).drew)
   have B6 := Lib.hid (show Below w.heap.size w w6 from B2.out.trans ((BZ.out.mono (Nat.le_succ _)).trans ((Kp.grown (B := w.heap.size) hg6 (World.ownsRow.mono (own_below OO3.out ((Below.refl _ _).alloc (Nat.le_refl _) _).drew) (Nat.le_succ _)) (by simp; omega)).low)))
   have O6 := Lib.hid (show IRw w6 w.heap.size v6 (encN th gs) by
    have e : encN th gs = l3 ++ [⟨8, 0, ⟨#[]⟩⟩] := by rw [HL3.out, HN.out, HE.out]; rfl
    unfold IRw
    rw [e, ← insCells_app, List.length_append, HL3N.out]
    exact World.ownsRow.mono hown6 (Nat.le_succ _))
   clear hown6 hg6 hat6
   go_wp2_with fail
   go_ret
   exact ⟨_, rfl, O6.out, Kp.of B6.out (Nat.le_refl _)⟩
end Go.Proofs.YtibcpdmeigdgpaaGreatDoor
