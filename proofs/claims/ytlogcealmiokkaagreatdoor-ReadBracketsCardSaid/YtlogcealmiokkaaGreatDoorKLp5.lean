/- The program's lexer: one token. -/
import Derived.Test.YtlogcealmiokkaaGreatDoorKLp4
import Derived.Test.YtlogcealmiokkaaGreatDoorKGb
import Derived.Deep.DeepCutAuto
import Derived.Deep.CutRange
import Derived.Deep.CutBlock
import Derived.Deep.RegionWith
import Derived.Deep.RegionLaw
import Derived.Deep.AppendLies
import Derived.Lib.OwnKind
namespace Go.Proofs.YtlogcealmiokkaaGreatDoor
open Go.RowKit
theorem of_other : ∀ n : Nat, n < 256 → (ofN n == 0) = !(smallB n || greatB n || digitB n || signB n || blankB n || (n : Int) == 33 || (n : Int) == 59 || markB n || (n : Int) == 39) := by decide +kernel
theorem head_none {s : ByteArray} {f : Nat} {o : Option Tk} (h : (ofN (bn s f) == 0) = true) : headN s f o = none := by
 rw [of_other _ (bn_lt s f)] at h
 simp only [Bool.not_eq_true', Bool.or_eq_false_iff] at h
 obtain ⟨⟨⟨⟨⟨⟨⟨⟨h1, h2⟩, h3⟩, h4⟩, h5⟩, h6⟩, h7⟩, h8⟩, h9⟩ := h
 have h46 : ((bn s f : Int) == 46) = false := by
  refine Bool.eq_false_iff.2 fun e => ?_
  have e' : (bn s f : Int) = 46 := by simpa using e
  rw [e'] at h4
  exact absurd h4 (by decide +kernel)
 unfold headN
 rw [h46, h1, h2, h3, h4, h6, h7, h8, h9]
 rfl
theorem head_some {s : ByteArray} {f : Nat} {o : Option Tk} (h : (ofN (bn s f) == 0) = false) (hnb : blankB (bn s f) = false) : ∃ q, headN s f o = some q := by
 rw [of_other _ (bn_lt s f), Bool.not_eq_false'] at h
 simp only [Bool.or_eq_true] at h
 cases hh : headN s f o with
 | some q => exact ⟨q, rfl⟩
 | none =>
  exfalso
  unfold headN at hh
  repeat' split at hh
  all_goals first | cases hh | skip
  simp_all
def OneQ (s : ByteArray) (X : Nat) (w : World) (l : List Tk) (r : OneR) (e : Ending) (w' : World) : Prop :=
 (match r with
   | .ok x => e = .returned (.tuple #[]) ∧ ∃ v', Sc w' X s x.b v' ∧ w'.ownsRow X 60 4 v' (l.length + 1) (tkCells (l ++ [x]))
   | .bad p er => e = .panicked [wrongE p er]) ∧ Below X w w'
def lastB (s : ByteArray) (f : Nat) : Bool := decide (f + 1 = s.size) || blankB (bn s (f + 1)) || (bn s (f + 1) : Int) == 37
structure St (W0 : World) (X T : Nat) (s : ByteArray) (f : Nat) (v : Value) (l : List Tk) (K : Int) (tx : ByteArray) (j : Nat) (w : World) : Prop where
 sc : Sc w X s j v
 own : w.ownsRow X 60 4 v l.length (tkCells l)
 tb : w.heap[T]? = some (.cells #[.int .i64 K, .string tx, .int .i64 (f : Int), .int .i64 0] 60 (0, 0))
 far : ∀ g, v.ownBlock = some g → g < T
 gt : X < T
 low : Below X W0 w
section
variable {W0 w w' : World} {X T f j : Nat} {s tx : ByteArray} {v : Value} {l : List Tk} {K : Int}
theorem St.drew (h : St W0 X T s f v l K tx j w) : St W0 X T s f v l K tx j w.drew := ⟨h.sc, h.own, h.tb, h.far, h.gt, h.low.drew⟩
theorem St.ne (h : St W0 X T s f v l K tx j w) {g : Nat} (hg : v.ownBlock = some g) : g ≠ X := by
 rintro rfl
 obtain ⟨cs, f', hh⟩ := Go.Lib.ownsRow_kind h.own _ hg
 have := h.sc
 unfold Sc at this
 rw [this] at hh
 injection hh with hh
 injection hh with _ hh
 exact absurd hh (by decide)
theorem St.onx (h : St W0 X T s f v l K tx j w) {j' : Nat} (ho : OnX X w w') (hs : Sc w' X s j' v) : St W0 X T s f v l K tx j' w' :=
 ⟨hs, own_keep h.own fun g hg => ho.far g (h.own.lt g hg).2 (h.ne hg), (ho.far T (heap_lt h.tb) (by have := h.gt; omega)).trans h.tb, h.far, h.gt, h.low.trans ho.low⟩
theorem St.at_ (h : St W0 X T s f v l K tx j w) (j' : Nat) : St W0 X T s f v l K tx j' (w.setCell ⟨X, 1, none⟩ (.int .i64 (j' : Int))) := h.onx (h.sc.at_ j').2 (h.sc.at_ j').1
theorem St.setT (h : St W0 X T s f v l K tx j w) {i : Nat} {u : Value} {K' : Int} {tx' : ByteArray} (hi : (#[.int .i64 K, .string tx, .int .i64 (f : Int), .int .i64 0] : Array Value).setIfInBounds i u = #[.int .i64 K', .string tx', .int .i64 (f : Int), .int .i64 0]) : St W0 X T s f v l K' tx' j (w.setCell ⟨T, i, none⟩ u) := by
 have hb := blk_set h.tb i u
 rw [hi] at hb
 have hk : ∀ g, g ≠ T → (w.setCell ⟨T, i, none⟩ u).heap[g]? = w.heap[g]? := fun g hg => Below.heap_setCell _ _ _ _ hg
 exact ⟨(hk X (by have := h.gt; omega)).trans h.sc, own_keep h.own fun g hg => hk g (by have := h.far g hg; omega), hb, h.far, h.gt, h.low.setCell (p := ⟨T, i, none⟩) (by show X ≤ T; have := h.gt; omega) u⟩
theorem St.k (h : St W0 X T s f v l K tx j w) (K' : Int) : St W0 X T s f v l K' tx j (w.setCell ⟨T, 0, none⟩ (.int .i64 K')) := h.setT rfl
theorem St.t (h : St W0 X T s f v l K tx j w) (tx' : ByteArray) : St W0 X T s f v l K tx' j (w.setCell ⟨T, 1, none⟩ (.string tx')) := h.setT rfl
theorem St.below (h : St W0 X T s f v l K tx j w) (hb : Below w.heap.size w w') : St W0 X T s f v l K tx j w' := h.onx (OnX.below h.sc.lt hb) (h.sc.below hb)
end
theorem keepSc {w1 w2 : World} {B n X : Nat} {v : Value} {xs : List Value} {cs : Array Value} {f : Nat × Nat} (hb : w1.heap[X]? = some (.cells cs 67 f)) (hx : w1.ownsRow B 60 4 v n xs) (hg : w1.grownBy w2 v.ownBlock) : w2.heap[X]? = some (.cells cs 67 f) := by
 refine (hg.block X (heap_lt hb) fun h => ?_).trans hb
 obtain ⟨cs', f', hh'⟩ := Go.Lib.ownsRow_kind hx X h.symm
 rw [hb] at hh'
 injection hh' with hh'
 injection hh' with _ hh'
 exact absurd hh' (by decide)
theorem unfrozenT {w : World} {g : Nat} {cs : Array Value} {t : TypeId} (h : w.heap[g]? = some (.cells cs t (0, 0))) : ∀ i, w.frozen? ⟨g, i, none⟩ = false := fun i => by simp [World.frozen?, h]
theorem scStore {w : World} {X j n : Nat} {s : ByteArray} {v v' : Value} {xs : List Value} (h : w.heap[X]? = some (.cells #[.string s, .int .i64 (j : Int), v] 67 (0, 0))) (ho : w.ownsRow X 60 4 v' n xs) :
 Sc (w.setCell ⟨X, 2, none⟩ v') X s j v' ∧ (w.setCell ⟨X, 2, none⟩ v').ownsRow X 60 4 v' n xs := by
 refine ⟨by simpa [Sc] using blk_set h 2 v', own_keep ho fun g hg => Below.heap_setCell _ _ _ _ ?_⟩
 rintro rfl
 obtain ⟨cs', f', hh'⟩ := Go.Lib.ownsRow_kind ho _ hg
 rw [h] at hh'
 injection hh' with hh'
 injection hh' with _ hh'
 exact absurd hh' (by decide)
theorem cls_cells {w : World} {t : TypeId} (cs : List Int) : ∀ (i : Nat) (u : Int), cs[i]? = some u → (w.alloc (.cells (cs.map (Value.int .i64)).toArray t)).cell? ⟨w.heap.size, i, none⟩ = some (.int .i64 u) := by
 intro i u hu
 rw [cell_of_row _ _ i _ _ _ (heap_alloc_new _ _)]
 simp [hu]
theorem ext_one (s : ByteArray) (f : Nat) (hf : f < s.size) : (s.extract f (f + 1)).data.toList = [bu s f] := by
 rw [list_extract, show f + 1 - f = 1 by omega]
 have h0 := List.getElem?_drop (xs := s.data.toList) (i := f) (j := 0)
 rw [Nat.add_zero, list_at s hf] at h0
 match hd : s.data.toList.drop f, h0 with
 | x :: l, h0 => simp at h0; subst h0; rfl
theorem ext_lit (s : ByteArray) (f : Nat) (hf : f < s.size) {c : UInt8} (h : (bn s f : Int) = (c.toNat : Int)) : s.extract f (f + 1) = ⟨#[c]⟩ := by
 have h1 := ext_one s f hf
 rw [bu_of h rfl] at h1
 apply ByteArray.ext
 exact Array.ext' h1
set_option maxHeartbeats 16000000 in
set_option maxRecDepth 100000 in
theorem one_any' (s : ByteArray) (hs : s.size ≤ 4096) {w : World} {X f : Nat} {v : Value} {l : List Tk} (h : Sc w X s f v) (ho : w.ownsRow X 60 4 v l.length (tkCells l)) (hf : f < s.size) (hnb : blankB (bn s f) = false) (hl : l.length ≤ 1000) :
 Calls Tryz.prog 28 #[.pointer (some ⟨X, 0, none⟩)] w fun e w' => OneQ s X w l (oneN s f l) e w' := by
 have hb : ∀ (i : Nat) (h : i < s.size), (s[i]'h).toNat = bn s i := bn_eq s
 have HS := Lib.hid h
 have HO := Lib.hid ho
 have hX := h.lt
 have HNB := Lib.hid hnb
 obtain ⟨x0, x1, x2, xf⟩ := h.cells
 obtain ⟨A, cp, rfl, hcp, hA, hcm, hx⟩ := own_open ho
 have HXO := Lib.hid hx
 have HFAR := Lib.hid (fun g hg => (HO.out.lt g hg).2)
 clear h ho hx hnb
 obtain ⟨T, hT⟩ : ∃ T, T = w.heap.size := ⟨_, rfl⟩
 obtain ⟨W, hW⟩ : ∃ W, W = w.alloc (.cells #[.int .i64 0, .string ⟨#[]⟩, .int .i64 (f : Int), .int .i64 0] 60) := ⟨_, rfl⟩
 have hWb : Below w.heap.size w W := by rw [hW]; exact (Below.refl _ _).alloc (Nat.le_refl _) _
 have TB0 := Lib.hid (show W.heap[T]? = some (.cells #[.int .i64 0, .string ⟨#[]⟩, .int .i64 (f : Int), .int .i64 0] 60 (0, 0)) by rw [hW, hT]; exact heap_alloc_new _ _)
 have SW := Lib.hid (HS.out.below hWb)
 have OW := Lib.hid (own_below HO.out hWb)
 have BW := Lib.hid hWb
 have hTX : X < T := by omega
 have CO := Lib.hid (fun V => of_any (bn s f) (bn_lt s f) V)
 obtain ⟨cv, hcv⟩ : ∃ cv, cv = ofN (bn s f) := ⟨_, rfl⟩
 rw [← hcv] at CO
 have HCV := Lib.hid hcv
 clear hcv hWb
 have hff : (f : Int) < (s.size : Int) := by omega
 go_enter Tryz.func28, Tryz.ntmps28
 go_wp2_with fail
 rw [← hW, ← hT]
 rw [← hT] at HFAR
 clear hW hT
 obtain ⟨y0, y1, y2, yf⟩ := SW.out.cells
 have hXW := SW.out.lt
 clear x0 x1 x2 xf
 have Y := Lib.hid (And.intro y0 (And.intro y1 y2))
 go_region_held3 (fun w' => w'.cell? ⟨X, 0, none⟩ = some (.string s) ∧ w'.cell? ⟨X, 1, none⟩ = some (.int .i64 (f : Int)))
  ((exact ⟨Y.out.1, Y.out.2.1⟩))
  ((go_at_call 47; (with_reducible refine (CO.out _).mono ?_); rintro e w1 ⟨rfl, rfl⟩))
 cases hc0 : (cv == 0)
 case true =>
  have HQ := Lib.hid (show oneN s f l = .bad f 30 by unfold oneN; rw [head_none (by rw [← HCV.out]; exact hc0)])
  go_wp2_with fail
  refine ⟨rfl, ?_⟩
  rw [HQ.out]
  exact ⟨rfl, by first | exact (BW.out.mono (Nat.le_of_lt hX)) | exact (BW.out.mono (Nat.le_of_lt hX)).drew⟩
 obtain ⟨hq, hhq⟩ := head_some (o := l.getLast?) (by rw [← HCV.out]; exact hc0) HNB.out
 have HHQ := Lib.hid hhq
 clear hhq
 by_cases hmany : l.length = 1000
 ·have hmany' : ((l.length : Int) == 1000) = true := by simp; omega
  have HQ := Lib.hid (show oneN s f l = .bad f 34 by unfold oneN; rw [HHQ.out]; dsimp only; rw [if_pos hmany])
  go_wp2_with fail
  refine ⟨rfl, ?_⟩
  rw [HQ.out]
  exact ⟨rfl, by first | exact (BW.out.mono (Nat.le_of_lt hX)) | exact (BW.out.mono (Nat.le_of_lt hX)).drew⟩
 have hmany' : ((l.length : Int) == 1000) = false := by simp; omega
 go_wp2_with fail
 go_cut [4] (fun lv wx => lv = .bool (lastB s f) ∧ wx = W.drew.drew)
 case first =>
  as_aux_lemma =>
   by_cases hend : f + 1 = s.size
   ·have hend' : ((f : Int) + 1 == (s.size : Int)) = true := by simp; omega
    have HLA := Lib.hid (show lastB s f = true by unfold lastB; rw [decide_eq_true hend]; rfl)
    go_region
    go_wp2_with fail
    go_meet
    case rel => exact ⟨by rw [HLA.out], rfl⟩
   have hf1 : f + 1 < s.size := by omega
   have hf1' : (f : Int) + 1 < (s.size : Int) := by omega
   have hf2 : ((f : Int) + 1).toNat = f + 1 := by omega
   have hend' : ((f : Int) + 1 == (s.size : Int)) = false := by simp; omega
   have hf0 : (0 : Int) ≤ (f : Int) + 1 := by omega
   have hwf : IntKind.i64.wrap ((f : Int) + 1) = (f : Int) + 1 := by rw [IntKind.wrap_i64]; omega
   cases h37 : ((bn s (f + 1) : Int) == 37)
   case true =>
    have HLA := Lib.hid (show lastB s f = true by unfold lastB; rw [h37, Bool.or_true])
    go_region
    go_wp2_with fail
    go_meet
    case rel => exact ⟨by rw [HLA.out], rfl⟩
   have CP := Lib.hid (fun V => of_any (bn s (f + 1)) (bn_lt s (f + 1)) V)
   obtain ⟨dv, hdv⟩ : ∃ dv, dv = ofN (bn s (f + 1)) := ⟨_, rfl⟩
   rw [← hdv] at CP
   have hbl := of_blank (bn s (f + 1)) (bn_lt s (f + 1))
   rw [← hdv] at hbl
   clear hdv
   cases hbb : blankB (bn s (f + 1))
   case true =>
    rw [hbb] at hbl
    have HLA := Lib.hid (show lastB s f = true by unfold lastB; rw [decide_eq_false hend, hbb, h37]; rfl)
    clear hbb
    refine wp_region_held_drew (S := fun w1 => w1.cell? ⟨X, 0, none⟩ = some (.string s) ∧ w1.cell? ⟨X, 1, none⟩ = some (.int .i64 (f : Int))) (by kernel_rfl) ?Sqa (fun hH0 => ?Bqa)
    case Sqa => (exact ⟨Y.out.1, Y.out.2.1⟩)
    refine wpAnyH_take (i := 0) (oi := { dst := some 41, op := .move (.tmp 0), type := 65, pos := "lex.go:149", after := #[], guard := none }) (v := ?vqa0) rfl (by kernel_rfl) (by kernel_rfl) (by kernel_rfl) (fun _ _ _ h => h) (Or.inl ⟨by rfl, ?hyqa0⟩) (by assumption) ?restqa0
    case hyqa0 => (intro w hSw; (try dsimp only at hSw); go_simp; try with_reducible rfl)
    try simp only [Act.put, List.setIfInBounds_toArray, List.set_cons_zero, List.set_cons_succ]
    refine wpAnyH_take (i := 1) (oi := { dst := some 42, op := .nilCheck (.tmp 41), type := 0, pos := "lex.go:149", after := #[{ on := 0, ground := .data }], guard := none }) (v := ?vqa1) rfl (by kernel_rfl) (by kernel_rfl) (by kernel_rfl) (fun _ _ _ h => h) (Or.inl ⟨by rfl, ?hyqa1⟩) (by assumption) ?restqa1
    case hyqa1 => (intro w hSw; (try dsimp only at hSw); go_simp; try with_reducible rfl)
    try simp only [Act.put, List.setIfInBounds_toArray, List.set_cons_zero, List.set_cons_succ]
    refine wpAnyH_take (i := 2) (oi := { dst := some 43, op := .fieldAddr 67 (.tmp 42) 1, type := 0, pos := "lex.go:149", after := #[{ on := 1, ground := .data }], guard := none }) (v := ?vqa2) rfl (by kernel_rfl) (by kernel_rfl) (by kernel_rfl) (fun _ _ _ h => h) (Or.inl ⟨by rfl, ?hyqa2⟩) (by assumption) ?restqa2
    case hyqa2 => (intro w hSw; (try dsimp only at hSw); go_simp; try with_reducible rfl)
    try simp only [Act.put, List.setIfInBounds_toArray, List.set_cons_zero, List.set_cons_succ]
    refine wpAnyH_take (i := 3) (oi := { dst := some 44, op := .load 3 (.tmp 43), type := 3, pos := "lex.go:149", after := #[{ on := 2, ground := .data }], guard := none }) (v := ?vqa3) rfl (by kernel_rfl) (by kernel_rfl) (by kernel_rfl) (fun _ _ _ h => h) (Or.inl ⟨by rfl, ?hyqa3⟩) (by assumption) ?restqa3
    case hyqa3 => (intro w hSw; (try dsimp only at hSw); go_simp; try with_reducible rfl)
    try simp only [Act.put, List.setIfInBounds_toArray, List.set_cons_zero, List.set_cons_succ]
    refine wpAnyH_take (i := 4) (oi := { dst := some 45, op := .binOp .add 3 (.tmp 44) (.const (.int .i64 1)) 3, type := 3, pos := "lex.go:149", after := #[{ on := 3, ground := .data }], guard := none }) (v := ?vqa4) rfl (by kernel_rfl) (by kernel_rfl) (by kernel_rfl) (fun _ _ _ h => h) (Or.inl ⟨by rfl, ?hyqa4⟩) (by assumption) ?restqa4
    case hyqa4 => (intro w hSw; (try dsimp only at hSw); go_simp; try with_reducible rfl)
    try simp only [Act.put, List.setIfInBounds_toArray, List.set_cons_zero, List.set_cons_succ]
    refine wpAnyH_take (i := 5) (oi := { dst := some 46, op := .move (.tmp 0), type := 65, pos := "lex.go:149", after := #[], guard := none }) (v := ?vqa5) rfl (by kernel_rfl) (by kernel_rfl) (by kernel_rfl) (fun _ _ _ h => h) (Or.inl ⟨by rfl, ?hyqa5⟩) (by assumption) ?restqa5
    case hyqa5 => (intro w hSw; (try dsimp only at hSw); go_simp; try with_reducible rfl)
    try simp only [Act.put, List.setIfInBounds_toArray, List.set_cons_zero, List.set_cons_succ]
    refine wpAnyH_take (i := 6) (oi := { dst := some 47, op := .nilCheck (.tmp 46), type := 0, pos := "lex.go:149", after := #[{ on := 5, ground := .data }], guard := none }) (v := ?vqa6) rfl (by kernel_rfl) (by kernel_rfl) (by kernel_rfl) (fun _ _ _ h => h) (Or.inl ⟨by rfl, ?hyqa6⟩) (by assumption) ?restqa6
    case hyqa6 => (intro w hSw; (try dsimp only at hSw); go_simp; try with_reducible rfl)
    try simp only [Act.put, List.setIfInBounds_toArray, List.set_cons_zero, List.set_cons_succ]
    refine wpAnyH_take (i := 7) (oi := { dst := some 48, op := .fieldAddr 67 (.tmp 47) 0, type := 0, pos := "lex.go:149", after := #[{ on := 6, ground := .data }], guard := none }) (v := ?vqa7) rfl (by kernel_rfl) (by kernel_rfl) (by kernel_rfl) (fun _ _ _ h => h) (Or.inl ⟨by rfl, ?hyqa7⟩) (by assumption) ?restqa7
    case hyqa7 => (intro w hSw; (try dsimp only at hSw); go_simp; try with_reducible rfl)
    try simp only [Act.put, List.setIfInBounds_toArray, List.set_cons_zero, List.set_cons_succ]
    refine wpAnyH_take (i := 8) (oi := { dst := some 49, op := .load 9 (.tmp 48), type := 9, pos := "lex.go:149", after := #[{ on := 7, ground := .data }], guard := none }) (v := ?vqa8) rfl (by kernel_rfl) (by kernel_rfl) (by kernel_rfl) (fun _ _ _ h => h) (Or.inl ⟨by rfl, ?hyqa8⟩) (by assumption) ?restqa8
    case hyqa8 => (intro w hSw; (try dsimp only at hSw); go_simp; try with_reducible rfl)
    try simp only [Act.put, List.setIfInBounds_toArray, List.set_cons_zero, List.set_cons_succ]
    refine wpAnyH_take (i := 9) (oi := { dst := some 50, op := .call { callee := .builtin .len, args := #[.tmp 49], argTypes := #[9] }, type := 3, pos := "lex.go:149", after := #[{ on := 8, ground := .data }], guard := none }) (v := ?vqa9) rfl (by kernel_rfl) (by kernel_rfl) (by kernel_rfl) (fun _ _ _ h => h) (Or.inl ⟨by rfl, ?hyqa9⟩) (by assumption) ?restqa9
    case hyqa9 => (intro w hSw; (try dsimp only at hSw); go_simp; try with_reducible rfl)
    try simp only [Act.put, List.setIfInBounds_toArray, List.set_cons_zero, List.set_cons_succ]
    refine wpAnyH_take (i := 10) (oi := { dst := some 51, op := .binOp .eql 3 (.tmp 45) (.tmp 50) 3, type := 4, pos := "lex.go:149", after := #[{ on := 4, ground := .data }, { on := 9, ground := .data }], guard := none }) (v := ?vqa10) rfl (by kernel_rfl) (by kernel_rfl) (by kernel_rfl) (fun _ _ _ h => h) (Or.inl ⟨by rfl, ?hyqa10⟩) (by assumption) ?restqa10
    case hyqa10 => (intro w hSw; (try dsimp only at hSw); go_simp; try with_reducible rfl)
    try simp only [Act.put, List.setIfInBounds_toArray, List.set_cons_zero, List.set_cons_succ]
    refine wpAnyH_take (i := 11) (oi := { dst := some 52, op := .move (.tmp 51), type := 4, pos := "lex.go:149", after := #[{ on := 10, ground := .data }], guard := none }) (v := ?vqa11) rfl (by kernel_rfl) (by kernel_rfl) (by kernel_rfl) (fun _ _ _ h => h) (Or.inl ⟨by rfl, ?hyqa11⟩) (by assumption) ?restqa11
    case hyqa11 => (intro w hSw; (try dsimp only at hSw); go_simp; try with_reducible rfl)
    try simp only [Act.put, List.setIfInBounds_toArray, List.set_cons_zero, List.set_cons_succ]
    refine wpAnyH_take (i := 12) (oi := { dst := some 53, op := .move (.tmp 0), type := 65, pos := "lex.go:149", after := #[{ on := 11, ground := .guard }], guard := some (11, false) }) (v := ?vqa12) rfl (by kernel_rfl) (by kernel_rfl) (by kernel_rfl) (fun _ _ _ h => h) (Or.inl ⟨by rfl, ?hyqa12⟩) (by assumption) ?restqa12
    case hyqa12 => (intro w hSw; (try dsimp only at hSw); go_simp; try with_reducible rfl)
    try simp only [Act.put, List.setIfInBounds_toArray, List.set_cons_zero, List.set_cons_succ]
    refine wpAnyH_take (i := 13) (oi := { dst := some 54, op := .nilCheck (.tmp 53), type := 0, pos := "lex.go:149", after := #[{ on := 12, ground := .data }, { on := 11, ground := .guard }], guard := some (11, false) }) (v := ?vqa13) rfl (by kernel_rfl) (by kernel_rfl) (by kernel_rfl) (fun _ _ _ h => h) (Or.inl ⟨by rfl, ?hyqa13⟩) (by assumption) ?restqa13
    case hyqa13 => (intro w hSw; (try dsimp only at hSw); go_simp; try with_reducible rfl)
    try simp only [Act.put, List.setIfInBounds_toArray, List.set_cons_zero, List.set_cons_succ]
    refine wpAnyH_take (i := 14) (oi := { dst := some 55, op := .fieldAddr 67 (.tmp 54) 0, type := 0, pos := "lex.go:149", after := #[{ on := 13, ground := .data }, { on := 11, ground := .guard }], guard := some (11, false) }) (v := ?vqa14) rfl (by kernel_rfl) (by kernel_rfl) (by kernel_rfl) (fun _ _ _ h => h) (Or.inl ⟨by rfl, ?hyqa14⟩) (by assumption) ?restqa14
    case hyqa14 => (intro w hSw; (try dsimp only at hSw); go_simp; try with_reducible rfl)
    try simp only [Act.put, List.setIfInBounds_toArray, List.set_cons_zero, List.set_cons_succ]
    refine wpAnyH_take (i := 15) (oi := { dst := some 56, op := .load 9 (.tmp 55), type := 9, pos := "lex.go:149", after := #[{ on := 14, ground := .data }, { on := 11, ground := .guard }], guard := some (11, false) }) (v := ?vqa15) rfl (by kernel_rfl) (by kernel_rfl) (by kernel_rfl) (fun _ _ _ h => h) (Or.inl ⟨by rfl, ?hyqa15⟩) (by assumption) ?restqa15
    case hyqa15 => (intro w hSw; (try dsimp only at hSw); go_simp; try with_reducible rfl)
    try simp only [Act.put, List.setIfInBounds_toArray, List.set_cons_zero, List.set_cons_succ]
    refine wpAnyH_take (i := 16) (oi := { dst := some 57, op := .move (.tmp 0), type := 65, pos := "lex.go:149", after := #[{ on := 11, ground := .guard }], guard := some (11, false) }) (v := ?vqa16) rfl (by kernel_rfl) (by kernel_rfl) (by kernel_rfl) (fun _ _ _ h => h) (Or.inl ⟨by rfl, ?hyqa16⟩) (by assumption) ?restqa16
    case hyqa16 => (intro w hSw; (try dsimp only at hSw); go_simp; try with_reducible rfl)
    try simp only [Act.put, List.setIfInBounds_toArray, List.set_cons_zero, List.set_cons_succ]
    refine wpAnyH_take (i := 17) (oi := { dst := some 58, op := .nilCheck (.tmp 57), type := 0, pos := "lex.go:149", after := #[{ on := 16, ground := .data }, { on := 11, ground := .guard }], guard := some (11, false) }) (v := ?vqa17) rfl (by kernel_rfl) (by kernel_rfl) (by kernel_rfl) (fun _ _ _ h => h) (Or.inl ⟨by rfl, ?hyqa17⟩) (by assumption) ?restqa17
    case hyqa17 => (intro w hSw; (try dsimp only at hSw); go_simp; try with_reducible rfl)
    try simp only [Act.put, List.setIfInBounds_toArray, List.set_cons_zero, List.set_cons_succ]
    refine wpAnyH_take (i := 18) (oi := { dst := some 59, op := .fieldAddr 67 (.tmp 58) 1, type := 0, pos := "lex.go:149", after := #[{ on := 17, ground := .data }, { on := 11, ground := .guard }], guard := some (11, false) }) (v := ?vqa18) rfl (by kernel_rfl) (by kernel_rfl) (by kernel_rfl) (fun _ _ _ h => h) (Or.inl ⟨by rfl, ?hyqa18⟩) (by assumption) ?restqa18
    case hyqa18 => (intro w hSw; (try dsimp only at hSw); go_simp; try with_reducible rfl)
    try simp only [Act.put, List.setIfInBounds_toArray, List.set_cons_zero, List.set_cons_succ]
    refine wpAnyH_take (i := 19) (oi := { dst := some 60, op := .load 3 (.tmp 59), type := 3, pos := "lex.go:149", after := #[{ on := 18, ground := .data }, { on := 11, ground := .guard }], guard := some (11, false) }) (v := ?vqa19) rfl (by kernel_rfl) (by kernel_rfl) (by kernel_rfl) (fun _ _ _ h => h) (Or.inl ⟨by rfl, ?hyqa19⟩) (by assumption) ?restqa19
    case hyqa19 => (intro w hSw; (try dsimp only at hSw); go_simp; try with_reducible rfl)
    try simp only [Act.put, List.setIfInBounds_toArray, List.set_cons_zero, List.set_cons_succ]
    refine wpAnyH_take (i := 20) (oi := { dst := some 61, op := .binOp .add 3 (.tmp 60) (.const (.int .i64 1)) 3, type := 3, pos := "lex.go:149", after := #[{ on := 19, ground := .data }, { on := 11, ground := .guard }], guard := some (11, false) }) (v := ?vqa20) rfl (by kernel_rfl) (by kernel_rfl) (by kernel_rfl) (fun _ _ _ h => h) (Or.inl ⟨by rfl, ?hyqa20⟩) (by assumption) ?restqa20
    case hyqa20 => (intro w hSw; (try dsimp only at hSw); go_simp; try with_reducible rfl)
    try simp only [Act.put, List.setIfInBounds_toArray, List.set_cons_zero, List.set_cons_succ]
    refine wpAnyH_take (i := 21) (oi := { dst := some 62, op := .index 9 (.tmp 56) (.tmp 61), type := 5, pos := "lex.go:149", after := #[{ on := 15, ground := .data }, { on := 20, ground := .data }, { on := 11, ground := .guard }], guard := some (11, false) }) (v := ?vqa21) rfl (by kernel_rfl) (by kernel_rfl) (by kernel_rfl) (fun _ _ _ h => h) (Or.inl ⟨by rfl, ?hyqa21⟩) (by assumption) ?restqa21
    case hyqa21 => (intro w hSw; (try dsimp only at hSw); go_simp; try with_reducible rfl)
    try simp only [Act.put, List.setIfInBounds_toArray, List.set_cons_zero, List.set_cons_succ]
    refine wpAnyH_take (i := 22) (oi := { dst := some 63, op := .binOp .eql 5 (.tmp 62) (.const (.int .u8 37)) 5, type := 4, pos := "lex.go:149", after := #[{ on := 21, ground := .data }, { on := 11, ground := .guard }], guard := some (11, false) }) (v := ?vqa22) rfl (by kernel_rfl) (by kernel_rfl) (by kernel_rfl) (fun _ _ _ h => h) (Or.inl ⟨by rfl, ?hyqa22⟩) (by assumption) ?restqa22
    case hyqa22 => (intro w hSw; (try dsimp only at hSw); go_simp; try with_reducible rfl)
    try simp only [Act.put, List.setIfInBounds_toArray, List.set_cons_zero, List.set_cons_succ]
    refine wpAnyH_take (i := 23) (oi := { dst := some 64, op := .pick (.tmp 52) (.const (.bool true)) (.tmp 63), type := 4, pos := "lex.go:149", after := #[{ on := 11, ground := .data }, { on := 22, ground := .data }], guard := none }) (v := ?vqa23) rfl (by kernel_rfl) (by kernel_rfl) (by kernel_rfl) (fun _ _ _ h => h) (Or.inl ⟨by rfl, ?hyqa23⟩) (by assumption) ?restqa23
    case hyqa23 => (intro w hSw; (try dsimp only at hSw); go_simp; try with_reducible rfl)
    try simp only [Act.put, List.setIfInBounds_toArray, List.set_cons_zero, List.set_cons_succ]
    refine wpAnyH_take (i := 24) (oi := { dst := some 65, op := .move (.tmp 64), type := 4, pos := "lex.go:149", after := #[{ on := 23, ground := .data }, { on := 11, ground := .chain }], guard := none }) (v := ?vqa24) rfl (by kernel_rfl) (by kernel_rfl) (by kernel_rfl) (fun _ _ _ h => h) (Or.inl ⟨by rfl, ?hyqa24⟩) (by assumption) ?restqa24
    case hyqa24 => (intro w hSw; (try dsimp only at hSw); go_simp; try with_reducible rfl)
    try simp only [Act.put, List.setIfInBounds_toArray, List.set_cons_zero, List.set_cons_succ]
    refine wpAnyH_take (i := 25) (oi := { dst := some 66, op := .move (.tmp 0), type := 65, pos := "lex.go:149", after := #[{ on := 24, ground := .guard }], guard := some (24, false) }) (v := ?vqa25) rfl (by kernel_rfl) (by kernel_rfl) (by kernel_rfl) (fun _ _ _ h => h) (Or.inl ⟨by rfl, ?hyqa25⟩) (by assumption) ?restqa25
    case hyqa25 => (intro w hSw; (try dsimp only at hSw); go_simp; try with_reducible rfl)
    try simp only [Act.put, List.setIfInBounds_toArray, List.set_cons_zero, List.set_cons_succ]
    refine wpAnyH_take (i := 26) (oi := { dst := some 67, op := .nilCheck (.tmp 66), type := 0, pos := "lex.go:149", after := #[{ on := 25, ground := .data }, { on := 24, ground := .guard }], guard := some (24, false) }) (v := ?vqa26) rfl (by kernel_rfl) (by kernel_rfl) (by kernel_rfl) (fun _ _ _ h => h) (Or.inl ⟨by rfl, ?hyqa26⟩) (by assumption) ?restqa26
    case hyqa26 => (intro w hSw; (try dsimp only at hSw); go_simp; try with_reducible rfl)
    try simp only [Act.put, List.setIfInBounds_toArray, List.set_cons_zero, List.set_cons_succ]
    refine wpAnyH_take (i := 27) (oi := { dst := some 68, op := .fieldAddr 67 (.tmp 67) 0, type := 0, pos := "lex.go:149", after := #[{ on := 26, ground := .data }, { on := 24, ground := .guard }], guard := some (24, false) }) (v := ?vqa27) rfl (by kernel_rfl) (by kernel_rfl) (by kernel_rfl) (fun _ _ _ h => h) (Or.inl ⟨by rfl, ?hyqa27⟩) (by assumption) ?restqa27
    case hyqa27 => (intro w hSw; (try dsimp only at hSw); go_simp; try with_reducible rfl)
    try simp only [Act.put, List.setIfInBounds_toArray, List.set_cons_zero, List.set_cons_succ]
    refine wpAnyH_take (i := 28) (oi := { dst := some 69, op := .load 9 (.tmp 68), type := 9, pos := "lex.go:149", after := #[{ on := 27, ground := .data }, { on := 24, ground := .guard }], guard := some (24, false) }) (v := ?vqa28) rfl (by kernel_rfl) (by kernel_rfl) (by kernel_rfl) (fun _ _ _ h => h) (Or.inl ⟨by rfl, ?hyqa28⟩) (by assumption) ?restqa28
    case hyqa28 => (intro w hSw; (try dsimp only at hSw); go_simp; try with_reducible rfl)
    try simp only [Act.put, List.setIfInBounds_toArray, List.set_cons_zero, List.set_cons_succ]
    refine wpAnyH_take (i := 29) (oi := { dst := some 70, op := .move (.tmp 0), type := 65, pos := "lex.go:149", after := #[{ on := 24, ground := .guard }], guard := some (24, false) }) (v := ?vqa29) rfl (by kernel_rfl) (by kernel_rfl) (by kernel_rfl) (fun _ _ _ h => h) (Or.inl ⟨by rfl, ?hyqa29⟩) (by assumption) ?restqa29
    case hyqa29 => (intro w hSw; (try dsimp only at hSw); go_simp; try with_reducible rfl)
    try simp only [Act.put, List.setIfInBounds_toArray, List.set_cons_zero, List.set_cons_succ]
    refine wpAnyH_take (i := 30) (oi := { dst := some 71, op := .nilCheck (.tmp 70), type := 0, pos := "lex.go:149", after := #[{ on := 29, ground := .data }, { on := 24, ground := .guard }], guard := some (24, false) }) (v := ?vqa30) rfl (by kernel_rfl) (by kernel_rfl) (by kernel_rfl) (fun _ _ _ h => h) (Or.inl ⟨by rfl, ?hyqa30⟩) (by assumption) ?restqa30
    case hyqa30 => (intro w hSw; (try dsimp only at hSw); go_simp; try with_reducible rfl)
    try simp only [Act.put, List.setIfInBounds_toArray, List.set_cons_zero, List.set_cons_succ]
    refine wpAnyH_take (i := 31) (oi := { dst := some 72, op := .fieldAddr 67 (.tmp 71) 1, type := 0, pos := "lex.go:149", after := #[{ on := 30, ground := .data }, { on := 24, ground := .guard }], guard := some (24, false) }) (v := ?vqa31) rfl (by kernel_rfl) (by kernel_rfl) (by kernel_rfl) (fun _ _ _ h => h) (Or.inl ⟨by rfl, ?hyqa31⟩) (by assumption) ?restqa31
    case hyqa31 => (intro w hSw; (try dsimp only at hSw); go_simp; try with_reducible rfl)
    try simp only [Act.put, List.setIfInBounds_toArray, List.set_cons_zero, List.set_cons_succ]
    refine wpAnyH_take (i := 32) (oi := { dst := some 73, op := .load 3 (.tmp 72), type := 3, pos := "lex.go:149", after := #[{ on := 31, ground := .data }, { on := 24, ground := .guard }], guard := some (24, false) }) (v := ?vqa32) rfl (by kernel_rfl) (by kernel_rfl) (by kernel_rfl) (fun _ _ _ h => h) (Or.inl ⟨by rfl, ?hyqa32⟩) (by assumption) ?restqa32
    case hyqa32 => (intro w hSw; (try dsimp only at hSw); go_simp; try with_reducible rfl)
    try simp only [Act.put, List.setIfInBounds_toArray, List.set_cons_zero, List.set_cons_succ]
    refine wpAnyH_take (i := 33) (oi := { dst := some 74, op := .binOp .add 3 (.tmp 73) (.const (.int .i64 1)) 3, type := 3, pos := "lex.go:149", after := #[{ on := 32, ground := .data }, { on := 24, ground := .guard }], guard := some (24, false) }) (v := ?vqa33) rfl (by kernel_rfl) (by kernel_rfl) (by kernel_rfl) (fun _ _ _ h => h) (Or.inl ⟨by rfl, ?hyqa33⟩) (by assumption) ?restqa33
    case hyqa33 => (intro w hSw; (try dsimp only at hSw); go_simp; try with_reducible rfl)
    try simp only [Act.put, List.setIfInBounds_toArray, List.set_cons_zero, List.set_cons_succ]
    refine wpAnyH_take (i := 34) (oi := { dst := some 75, op := .index 9 (.tmp 69) (.tmp 74), type := 5, pos := "lex.go:149", after := #[{ on := 28, ground := .data }, { on := 33, ground := .data }, { on := 24, ground := .guard }], guard := some (24, false) }) (v := ?vqa34) rfl (by kernel_rfl) (by kernel_rfl) (by kernel_rfl) (fun _ _ _ h => h) (Or.inl ⟨by rfl, ?hyqa34⟩) (by assumption) ?restqa34
    case hyqa34 => (intro w hSw; (try dsimp only at hSw); go_simp; try with_reducible rfl)
    try simp only [Act.put, List.setIfInBounds_toArray, List.set_cons_zero, List.set_cons_succ]
    refine wpAnyH_ready (rs := [35]) (by kernel_rfl) (by simp) ?_
    refine AllReadyH.cons (o := { dst := some 76, op := .call { callee := .value (.func 47), args := #[.tmp 75], argTypes := #[5] }, type := 79, pos := "lex.go:149", after := #[{ on := 34, ground := .data }, { on := 24, ground := .chain }, { on := 24, ground := .guard }], guard := some (24, false) }) rfl (fun K hK => ?_) ?nilqa35
    case nilqa35 => exact AllReadyH.nil
    go_simp
    (with_reducible refine (CP.out _).mono ?_)
    rintro e w1 ⟨rfl, rfl⟩
    go_wp2_with fail
    refine hK.out _ _ ?Sqa35 (fun hH1 => ?restqa35)
    case Sqa35 => (exact hH0)
    clear hK K
    try simp only [Act.put, List.setIfInBounds_toArray, List.set_cons_zero, List.set_cons_succ]
    refine wpAnyH_take (i := 36) (oi := { dst := some 77, op := .binOp .eql 79 (.tmp 76) (.const (.int .i64 5)) 79, type := 4, pos := "lex.go:149", after := #[{ on := 35, ground := .data }, { on := 24, ground := .guard }], guard := some (24, false) }) (v := ?vqa36) rfl (by kernel_rfl) (by kernel_rfl) (by kernel_rfl) (fun _ _ _ h => h) (Or.inl ⟨by rfl, ?hyqa36⟩) (by assumption) ?restqa36
    case hyqa36 => (intro w hSw; (try dsimp only at hSw); go_simp; try with_reducible rfl)
    try simp only [Act.put, List.setIfInBounds_toArray, List.set_cons_zero, List.set_cons_succ]
    refine wpAnyH_take (i := 37) (oi := { dst := some 78, op := .pick (.tmp 65) (.const (.bool true)) (.tmp 77), type := 4, pos := "lex.go:149", after := #[{ on := 24, ground := .data }, { on := 36, ground := .data }], guard := none }) (v := ?vqa37) rfl (by kernel_rfl) (by kernel_rfl) (by kernel_rfl) (fun _ _ _ h => h) (Or.inl ⟨by rfl, ?hyqa37⟩) (by assumption) ?restqa37
    case hyqa37 => (intro w hSw; (try dsimp only at hSw); go_simp; try with_reducible rfl)
    try simp only [Act.put, List.setIfInBounds_toArray, List.set_cons_zero, List.set_cons_succ]
    refine wpAnyH_take (i := 38) (oi := { dst := some 4, op := .assign (.tmp 78), type := 4, pos := "lex.go:149", after := #[{ on := 37, ground := .data }, { on := 35, ground := .chain }, { on := 0, ground := .phase }, { on := 1, ground := .phase }, { on := 2, ground := .phase }, { on := 3, ground := .phase }, { on := 4, ground := .phase }, { on := 5, ground := .phase }, { on := 6, ground := .phase }, { on := 7, ground := .phase }, { on := 8, ground := .phase }, { on := 9, ground := .phase }, { on := 10, ground := .phase }, { on := 11, ground := .phase }, { on := 12, ground := .phase }, { on := 13, ground := .phase }, { on := 14, ground := .phase }, { on := 15, ground := .phase }, { on := 16, ground := .phase }, { on := 17, ground := .phase }, { on := 18, ground := .phase }, { on := 19, ground := .phase }, { on := 20, ground := .phase }, { on := 21, ground := .phase }, { on := 22, ground := .phase }, { on := 23, ground := .phase }, { on := 24, ground := .phase }, { on := 25, ground := .phase }, { on := 26, ground := .phase }, { on := 27, ground := .phase }, { on := 28, ground := .phase }, { on := 29, ground := .phase }, { on := 30, ground := .phase }, { on := 31, ground := .phase }, { on := 32, ground := .phase }, { on := 33, ground := .phase }, { on := 34, ground := .phase }, { on := 35, ground := .phase }, { on := 36, ground := .phase }, { on := 37, ground := .phase }], guard := none }) (v := ?vqa38) rfl (by kernel_rfl) (by kernel_rfl) (by kernel_rfl) (fun _ _ _ h => h) (Or.inl ⟨by rfl, ?hyqa38⟩) (by assumption) ?restqa38
    case hyqa38 => (intro w hSw; (try dsimp only at hSw); go_simp; try with_reducible rfl)
    try simp only [Act.put, List.setIfInBounds_toArray, List.set_cons_zero, List.set_cons_succ]
    refine wpAnyH_done (by kernel_rfl) ?_ _
    go_wp2_with fail
    go_meet
    case rel => exact ⟨by rw [HLA.out], rfl⟩
   case false =>
    rw [hbb] at hbl
    have HLA := Lib.hid (show lastB s f = false by unfold lastB; rw [decide_eq_false hend, hbb, h37]; rfl)
    clear hbb
    refine wp_region_held_drew (S := fun w1 => w1.cell? ⟨X, 0, none⟩ = some (.string s) ∧ w1.cell? ⟨X, 1, none⟩ = some (.int .i64 (f : Int))) (by kernel_rfl) ?Sqb (fun hH0 => ?Bqb)
    case Sqb => (exact ⟨Y.out.1, Y.out.2.1⟩)
    refine wpAnyH_take (i := 0) (oi := { dst := some 41, op := .move (.tmp 0), type := 65, pos := "lex.go:149", after := #[], guard := none }) (v := ?vqb0) rfl (by kernel_rfl) (by kernel_rfl) (by kernel_rfl) (fun _ _ _ h => h) (Or.inl ⟨by rfl, ?hyqb0⟩) (by assumption) ?restqb0
    case hyqb0 => (intro w hSw; (try dsimp only at hSw); go_simp; try with_reducible rfl)
    try simp only [Act.put, List.setIfInBounds_toArray, List.set_cons_zero, List.set_cons_succ]
    refine wpAnyH_take (i := 1) (oi := { dst := some 42, op := .nilCheck (.tmp 41), type := 0, pos := "lex.go:149", after := #[{ on := 0, ground := .data }], guard := none }) (v := ?vqb1) rfl (by kernel_rfl) (by kernel_rfl) (by kernel_rfl) (fun _ _ _ h => h) (Or.inl ⟨by rfl, ?hyqb1⟩) (by assumption) ?restqb1
    case hyqb1 => (intro w hSw; (try dsimp only at hSw); go_simp; try with_reducible rfl)
    try simp only [Act.put, List.setIfInBounds_toArray, List.set_cons_zero, List.set_cons_succ]
    refine wpAnyH_take (i := 2) (oi := { dst := some 43, op := .fieldAddr 67 (.tmp 42) 1, type := 0, pos := "lex.go:149", after := #[{ on := 1, ground := .data }], guard := none }) (v := ?vqb2) rfl (by kernel_rfl) (by kernel_rfl) (by kernel_rfl) (fun _ _ _ h => h) (Or.inl ⟨by rfl, ?hyqb2⟩) (by assumption) ?restqb2
    case hyqb2 => (intro w hSw; (try dsimp only at hSw); go_simp; try with_reducible rfl)
    try simp only [Act.put, List.setIfInBounds_toArray, List.set_cons_zero, List.set_cons_succ]
    refine wpAnyH_take (i := 3) (oi := { dst := some 44, op := .load 3 (.tmp 43), type := 3, pos := "lex.go:149", after := #[{ on := 2, ground := .data }], guard := none }) (v := ?vqb3) rfl (by kernel_rfl) (by kernel_rfl) (by kernel_rfl) (fun _ _ _ h => h) (Or.inl ⟨by rfl, ?hyqb3⟩) (by assumption) ?restqb3
    case hyqb3 => (intro w hSw; (try dsimp only at hSw); go_simp; try with_reducible rfl)
    try simp only [Act.put, List.setIfInBounds_toArray, List.set_cons_zero, List.set_cons_succ]
    refine wpAnyH_take (i := 4) (oi := { dst := some 45, op := .binOp .add 3 (.tmp 44) (.const (.int .i64 1)) 3, type := 3, pos := "lex.go:149", after := #[{ on := 3, ground := .data }], guard := none }) (v := ?vqb4) rfl (by kernel_rfl) (by kernel_rfl) (by kernel_rfl) (fun _ _ _ h => h) (Or.inl ⟨by rfl, ?hyqb4⟩) (by assumption) ?restqb4
    case hyqb4 => (intro w hSw; (try dsimp only at hSw); go_simp; try with_reducible rfl)
    try simp only [Act.put, List.setIfInBounds_toArray, List.set_cons_zero, List.set_cons_succ]
    refine wpAnyH_take (i := 5) (oi := { dst := some 46, op := .move (.tmp 0), type := 65, pos := "lex.go:149", after := #[], guard := none }) (v := ?vqb5) rfl (by kernel_rfl) (by kernel_rfl) (by kernel_rfl) (fun _ _ _ h => h) (Or.inl ⟨by rfl, ?hyqb5⟩) (by assumption) ?restqb5
    case hyqb5 => (intro w hSw; (try dsimp only at hSw); go_simp; try with_reducible rfl)
    try simp only [Act.put, List.setIfInBounds_toArray, List.set_cons_zero, List.set_cons_succ]
    refine wpAnyH_take (i := 6) (oi := { dst := some 47, op := .nilCheck (.tmp 46), type := 0, pos := "lex.go:149", after := #[{ on := 5, ground := .data }], guard := none }) (v := ?vqb6) rfl (by kernel_rfl) (by kernel_rfl) (by kernel_rfl) (fun _ _ _ h => h) (Or.inl ⟨by rfl, ?hyqb6⟩) (by assumption) ?restqb6
    case hyqb6 => (intro w hSw; (try dsimp only at hSw); go_simp; try with_reducible rfl)
    try simp only [Act.put, List.setIfInBounds_toArray, List.set_cons_zero, List.set_cons_succ]
    refine wpAnyH_take (i := 7) (oi := { dst := some 48, op := .fieldAddr 67 (.tmp 47) 0, type := 0, pos := "lex.go:149", after := #[{ on := 6, ground := .data }], guard := none }) (v := ?vqb7) rfl (by kernel_rfl) (by kernel_rfl) (by kernel_rfl) (fun _ _ _ h => h) (Or.inl ⟨by rfl, ?hyqb7⟩) (by assumption) ?restqb7
    case hyqb7 => (intro w hSw; (try dsimp only at hSw); go_simp; try with_reducible rfl)
    try simp only [Act.put, List.setIfInBounds_toArray, List.set_cons_zero, List.set_cons_succ]
    refine wpAnyH_take (i := 8) (oi := { dst := some 49, op := .load 9 (.tmp 48), type := 9, pos := "lex.go:149", after := #[{ on := 7, ground := .data }], guard := none }) (v := ?vqb8) rfl (by kernel_rfl) (by kernel_rfl) (by kernel_rfl) (fun _ _ _ h => h) (Or.inl ⟨by rfl, ?hyqb8⟩) (by assumption) ?restqb8
    case hyqb8 => (intro w hSw; (try dsimp only at hSw); go_simp; try with_reducible rfl)
    try simp only [Act.put, List.setIfInBounds_toArray, List.set_cons_zero, List.set_cons_succ]
    refine wpAnyH_take (i := 9) (oi := { dst := some 50, op := .call { callee := .builtin .len, args := #[.tmp 49], argTypes := #[9] }, type := 3, pos := "lex.go:149", after := #[{ on := 8, ground := .data }], guard := none }) (v := ?vqb9) rfl (by kernel_rfl) (by kernel_rfl) (by kernel_rfl) (fun _ _ _ h => h) (Or.inl ⟨by rfl, ?hyqb9⟩) (by assumption) ?restqb9
    case hyqb9 => (intro w hSw; (try dsimp only at hSw); go_simp; try with_reducible rfl)
    try simp only [Act.put, List.setIfInBounds_toArray, List.set_cons_zero, List.set_cons_succ]
    refine wpAnyH_take (i := 10) (oi := { dst := some 51, op := .binOp .eql 3 (.tmp 45) (.tmp 50) 3, type := 4, pos := "lex.go:149", after := #[{ on := 4, ground := .data }, { on := 9, ground := .data }], guard := none }) (v := ?vqb10) rfl (by kernel_rfl) (by kernel_rfl) (by kernel_rfl) (fun _ _ _ h => h) (Or.inl ⟨by rfl, ?hyqb10⟩) (by assumption) ?restqb10
    case hyqb10 => (intro w hSw; (try dsimp only at hSw); go_simp; try with_reducible rfl)
    try simp only [Act.put, List.setIfInBounds_toArray, List.set_cons_zero, List.set_cons_succ]
    refine wpAnyH_take (i := 11) (oi := { dst := some 52, op := .move (.tmp 51), type := 4, pos := "lex.go:149", after := #[{ on := 10, ground := .data }], guard := none }) (v := ?vqb11) rfl (by kernel_rfl) (by kernel_rfl) (by kernel_rfl) (fun _ _ _ h => h) (Or.inl ⟨by rfl, ?hyqb11⟩) (by assumption) ?restqb11
    case hyqb11 => (intro w hSw; (try dsimp only at hSw); go_simp; try with_reducible rfl)
    try simp only [Act.put, List.setIfInBounds_toArray, List.set_cons_zero, List.set_cons_succ]
    refine wpAnyH_take (i := 12) (oi := { dst := some 53, op := .move (.tmp 0), type := 65, pos := "lex.go:149", after := #[{ on := 11, ground := .guard }], guard := some (11, false) }) (v := ?vqb12) rfl (by kernel_rfl) (by kernel_rfl) (by kernel_rfl) (fun _ _ _ h => h) (Or.inl ⟨by rfl, ?hyqb12⟩) (by assumption) ?restqb12
    case hyqb12 => (intro w hSw; (try dsimp only at hSw); go_simp; try with_reducible rfl)
    try simp only [Act.put, List.setIfInBounds_toArray, List.set_cons_zero, List.set_cons_succ]
    refine wpAnyH_take (i := 13) (oi := { dst := some 54, op := .nilCheck (.tmp 53), type := 0, pos := "lex.go:149", after := #[{ on := 12, ground := .data }, { on := 11, ground := .guard }], guard := some (11, false) }) (v := ?vqb13) rfl (by kernel_rfl) (by kernel_rfl) (by kernel_rfl) (fun _ _ _ h => h) (Or.inl ⟨by rfl, ?hyqb13⟩) (by assumption) ?restqb13
    case hyqb13 => (intro w hSw; (try dsimp only at hSw); go_simp; try with_reducible rfl)
    try simp only [Act.put, List.setIfInBounds_toArray, List.set_cons_zero, List.set_cons_succ]
    refine wpAnyH_take (i := 14) (oi := { dst := some 55, op := .fieldAddr 67 (.tmp 54) 0, type := 0, pos := "lex.go:149", after := #[{ on := 13, ground := .data }, { on := 11, ground := .guard }], guard := some (11, false) }) (v := ?vqb14) rfl (by kernel_rfl) (by kernel_rfl) (by kernel_rfl) (fun _ _ _ h => h) (Or.inl ⟨by rfl, ?hyqb14⟩) (by assumption) ?restqb14
    case hyqb14 => (intro w hSw; (try dsimp only at hSw); go_simp; try with_reducible rfl)
    try simp only [Act.put, List.setIfInBounds_toArray, List.set_cons_zero, List.set_cons_succ]
    refine wpAnyH_take (i := 15) (oi := { dst := some 56, op := .load 9 (.tmp 55), type := 9, pos := "lex.go:149", after := #[{ on := 14, ground := .data }, { on := 11, ground := .guard }], guard := some (11, false) }) (v := ?vqb15) rfl (by kernel_rfl) (by kernel_rfl) (by kernel_rfl) (fun _ _ _ h => h) (Or.inl ⟨by rfl, ?hyqb15⟩) (by assumption) ?restqb15
    case hyqb15 => (intro w hSw; (try dsimp only at hSw); go_simp; try with_reducible rfl)
    try simp only [Act.put, List.setIfInBounds_toArray, List.set_cons_zero, List.set_cons_succ]
    refine wpAnyH_take (i := 16) (oi := { dst := some 57, op := .move (.tmp 0), type := 65, pos := "lex.go:149", after := #[{ on := 11, ground := .guard }], guard := some (11, false) }) (v := ?vqb16) rfl (by kernel_rfl) (by kernel_rfl) (by kernel_rfl) (fun _ _ _ h => h) (Or.inl ⟨by rfl, ?hyqb16⟩) (by assumption) ?restqb16
    case hyqb16 => (intro w hSw; (try dsimp only at hSw); go_simp; try with_reducible rfl)
    try simp only [Act.put, List.setIfInBounds_toArray, List.set_cons_zero, List.set_cons_succ]
    refine wpAnyH_take (i := 17) (oi := { dst := some 58, op := .nilCheck (.tmp 57), type := 0, pos := "lex.go:149", after := #[{ on := 16, ground := .data }, { on := 11, ground := .guard }], guard := some (11, false) }) (v := ?vqb17) rfl (by kernel_rfl) (by kernel_rfl) (by kernel_rfl) (fun _ _ _ h => h) (Or.inl ⟨by rfl, ?hyqb17⟩) (by assumption) ?restqb17
    case hyqb17 => (intro w hSw; (try dsimp only at hSw); go_simp; try with_reducible rfl)
    try simp only [Act.put, List.setIfInBounds_toArray, List.set_cons_zero, List.set_cons_succ]
    refine wpAnyH_take (i := 18) (oi := { dst := some 59, op := .fieldAddr 67 (.tmp 58) 1, type := 0, pos := "lex.go:149", after := #[{ on := 17, ground := .data }, { on := 11, ground := .guard }], guard := some (11, false) }) (v := ?vqb18) rfl (by kernel_rfl) (by kernel_rfl) (by kernel_rfl) (fun _ _ _ h => h) (Or.inl ⟨by rfl, ?hyqb18⟩) (by assumption) ?restqb18
    case hyqb18 => (intro w hSw; (try dsimp only at hSw); go_simp; try with_reducible rfl)
    try simp only [Act.put, List.setIfInBounds_toArray, List.set_cons_zero, List.set_cons_succ]
    refine wpAnyH_take (i := 19) (oi := { dst := some 60, op := .load 3 (.tmp 59), type := 3, pos := "lex.go:149", after := #[{ on := 18, ground := .data }, { on := 11, ground := .guard }], guard := some (11, false) }) (v := ?vqb19) rfl (by kernel_rfl) (by kernel_rfl) (by kernel_rfl) (fun _ _ _ h => h) (Or.inl ⟨by rfl, ?hyqb19⟩) (by assumption) ?restqb19
    case hyqb19 => (intro w hSw; (try dsimp only at hSw); go_simp; try with_reducible rfl)
    try simp only [Act.put, List.setIfInBounds_toArray, List.set_cons_zero, List.set_cons_succ]
    refine wpAnyH_take (i := 20) (oi := { dst := some 61, op := .binOp .add 3 (.tmp 60) (.const (.int .i64 1)) 3, type := 3, pos := "lex.go:149", after := #[{ on := 19, ground := .data }, { on := 11, ground := .guard }], guard := some (11, false) }) (v := ?vqb20) rfl (by kernel_rfl) (by kernel_rfl) (by kernel_rfl) (fun _ _ _ h => h) (Or.inl ⟨by rfl, ?hyqb20⟩) (by assumption) ?restqb20
    case hyqb20 => (intro w hSw; (try dsimp only at hSw); go_simp; try with_reducible rfl)
    try simp only [Act.put, List.setIfInBounds_toArray, List.set_cons_zero, List.set_cons_succ]
    refine wpAnyH_take (i := 21) (oi := { dst := some 62, op := .index 9 (.tmp 56) (.tmp 61), type := 5, pos := "lex.go:149", after := #[{ on := 15, ground := .data }, { on := 20, ground := .data }, { on := 11, ground := .guard }], guard := some (11, false) }) (v := ?vqb21) rfl (by kernel_rfl) (by kernel_rfl) (by kernel_rfl) (fun _ _ _ h => h) (Or.inl ⟨by rfl, ?hyqb21⟩) (by assumption) ?restqb21
    case hyqb21 => (intro w hSw; (try dsimp only at hSw); go_simp; try with_reducible rfl)
    try simp only [Act.put, List.setIfInBounds_toArray, List.set_cons_zero, List.set_cons_succ]
    refine wpAnyH_take (i := 22) (oi := { dst := some 63, op := .binOp .eql 5 (.tmp 62) (.const (.int .u8 37)) 5, type := 4, pos := "lex.go:149", after := #[{ on := 21, ground := .data }, { on := 11, ground := .guard }], guard := some (11, false) }) (v := ?vqb22) rfl (by kernel_rfl) (by kernel_rfl) (by kernel_rfl) (fun _ _ _ h => h) (Or.inl ⟨by rfl, ?hyqb22⟩) (by assumption) ?restqb22
    case hyqb22 => (intro w hSw; (try dsimp only at hSw); go_simp; try with_reducible rfl)
    try simp only [Act.put, List.setIfInBounds_toArray, List.set_cons_zero, List.set_cons_succ]
    refine wpAnyH_take (i := 23) (oi := { dst := some 64, op := .pick (.tmp 52) (.const (.bool true)) (.tmp 63), type := 4, pos := "lex.go:149", after := #[{ on := 11, ground := .data }, { on := 22, ground := .data }], guard := none }) (v := ?vqb23) rfl (by kernel_rfl) (by kernel_rfl) (by kernel_rfl) (fun _ _ _ h => h) (Or.inl ⟨by rfl, ?hyqb23⟩) (by assumption) ?restqb23
    case hyqb23 => (intro w hSw; (try dsimp only at hSw); go_simp; try with_reducible rfl)
    try simp only [Act.put, List.setIfInBounds_toArray, List.set_cons_zero, List.set_cons_succ]
    refine wpAnyH_take (i := 24) (oi := { dst := some 65, op := .move (.tmp 64), type := 4, pos := "lex.go:149", after := #[{ on := 23, ground := .data }, { on := 11, ground := .chain }], guard := none }) (v := ?vqb24) rfl (by kernel_rfl) (by kernel_rfl) (by kernel_rfl) (fun _ _ _ h => h) (Or.inl ⟨by rfl, ?hyqb24⟩) (by assumption) ?restqb24
    case hyqb24 => (intro w hSw; (try dsimp only at hSw); go_simp; try with_reducible rfl)
    try simp only [Act.put, List.setIfInBounds_toArray, List.set_cons_zero, List.set_cons_succ]
    refine wpAnyH_take (i := 25) (oi := { dst := some 66, op := .move (.tmp 0), type := 65, pos := "lex.go:149", after := #[{ on := 24, ground := .guard }], guard := some (24, false) }) (v := ?vqb25) rfl (by kernel_rfl) (by kernel_rfl) (by kernel_rfl) (fun _ _ _ h => h) (Or.inl ⟨by rfl, ?hyqb25⟩) (by assumption) ?restqb25
    case hyqb25 => (intro w hSw; (try dsimp only at hSw); go_simp; try with_reducible rfl)
    try simp only [Act.put, List.setIfInBounds_toArray, List.set_cons_zero, List.set_cons_succ]
    refine wpAnyH_take (i := 26) (oi := { dst := some 67, op := .nilCheck (.tmp 66), type := 0, pos := "lex.go:149", after := #[{ on := 25, ground := .data }, { on := 24, ground := .guard }], guard := some (24, false) }) (v := ?vqb26) rfl (by kernel_rfl) (by kernel_rfl) (by kernel_rfl) (fun _ _ _ h => h) (Or.inl ⟨by rfl, ?hyqb26⟩) (by assumption) ?restqb26
    case hyqb26 => (intro w hSw; (try dsimp only at hSw); go_simp; try with_reducible rfl)
    try simp only [Act.put, List.setIfInBounds_toArray, List.set_cons_zero, List.set_cons_succ]
    refine wpAnyH_take (i := 27) (oi := { dst := some 68, op := .fieldAddr 67 (.tmp 67) 0, type := 0, pos := "lex.go:149", after := #[{ on := 26, ground := .data }, { on := 24, ground := .guard }], guard := some (24, false) }) (v := ?vqb27) rfl (by kernel_rfl) (by kernel_rfl) (by kernel_rfl) (fun _ _ _ h => h) (Or.inl ⟨by rfl, ?hyqb27⟩) (by assumption) ?restqb27
    case hyqb27 => (intro w hSw; (try dsimp only at hSw); go_simp; try with_reducible rfl)
    try simp only [Act.put, List.setIfInBounds_toArray, List.set_cons_zero, List.set_cons_succ]
    refine wpAnyH_take (i := 28) (oi := { dst := some 69, op := .load 9 (.tmp 68), type := 9, pos := "lex.go:149", after := #[{ on := 27, ground := .data }, { on := 24, ground := .guard }], guard := some (24, false) }) (v := ?vqb28) rfl (by kernel_rfl) (by kernel_rfl) (by kernel_rfl) (fun _ _ _ h => h) (Or.inl ⟨by rfl, ?hyqb28⟩) (by assumption) ?restqb28
    case hyqb28 => (intro w hSw; (try dsimp only at hSw); go_simp; try with_reducible rfl)
    try simp only [Act.put, List.setIfInBounds_toArray, List.set_cons_zero, List.set_cons_succ]
    refine wpAnyH_take (i := 29) (oi := { dst := some 70, op := .move (.tmp 0), type := 65, pos := "lex.go:149", after := #[{ on := 24, ground := .guard }], guard := some (24, false) }) (v := ?vqb29) rfl (by kernel_rfl) (by kernel_rfl) (by kernel_rfl) (fun _ _ _ h => h) (Or.inl ⟨by rfl, ?hyqb29⟩) (by assumption) ?restqb29
    case hyqb29 => (intro w hSw; (try dsimp only at hSw); go_simp; try with_reducible rfl)
    try simp only [Act.put, List.setIfInBounds_toArray, List.set_cons_zero, List.set_cons_succ]
    refine wpAnyH_take (i := 30) (oi := { dst := some 71, op := .nilCheck (.tmp 70), type := 0, pos := "lex.go:149", after := #[{ on := 29, ground := .data }, { on := 24, ground := .guard }], guard := some (24, false) }) (v := ?vqb30) rfl (by kernel_rfl) (by kernel_rfl) (by kernel_rfl) (fun _ _ _ h => h) (Or.inl ⟨by rfl, ?hyqb30⟩) (by assumption) ?restqb30
    case hyqb30 => (intro w hSw; (try dsimp only at hSw); go_simp; try with_reducible rfl)
    try simp only [Act.put, List.setIfInBounds_toArray, List.set_cons_zero, List.set_cons_succ]
    refine wpAnyH_take (i := 31) (oi := { dst := some 72, op := .fieldAddr 67 (.tmp 71) 1, type := 0, pos := "lex.go:149", after := #[{ on := 30, ground := .data }, { on := 24, ground := .guard }], guard := some (24, false) }) (v := ?vqb31) rfl (by kernel_rfl) (by kernel_rfl) (by kernel_rfl) (fun _ _ _ h => h) (Or.inl ⟨by rfl, ?hyqb31⟩) (by assumption) ?restqb31
    case hyqb31 => (intro w hSw; (try dsimp only at hSw); go_simp; try with_reducible rfl)
    try simp only [Act.put, List.setIfInBounds_toArray, List.set_cons_zero, List.set_cons_succ]
    refine wpAnyH_take (i := 32) (oi := { dst := some 73, op := .load 3 (.tmp 72), type := 3, pos := "lex.go:149", after := #[{ on := 31, ground := .data }, { on := 24, ground := .guard }], guard := some (24, false) }) (v := ?vqb32) rfl (by kernel_rfl) (by kernel_rfl) (by kernel_rfl) (fun _ _ _ h => h) (Or.inl ⟨by rfl, ?hyqb32⟩) (by assumption) ?restqb32
    case hyqb32 => (intro w hSw; (try dsimp only at hSw); go_simp; try with_reducible rfl)
    try simp only [Act.put, List.setIfInBounds_toArray, List.set_cons_zero, List.set_cons_succ]
    refine wpAnyH_take (i := 33) (oi := { dst := some 74, op := .binOp .add 3 (.tmp 73) (.const (.int .i64 1)) 3, type := 3, pos := "lex.go:149", after := #[{ on := 32, ground := .data }, { on := 24, ground := .guard }], guard := some (24, false) }) (v := ?vqb33) rfl (by kernel_rfl) (by kernel_rfl) (by kernel_rfl) (fun _ _ _ h => h) (Or.inl ⟨by rfl, ?hyqb33⟩) (by assumption) ?restqb33
    case hyqb33 => (intro w hSw; (try dsimp only at hSw); go_simp; try with_reducible rfl)
    try simp only [Act.put, List.setIfInBounds_toArray, List.set_cons_zero, List.set_cons_succ]
    refine wpAnyH_take (i := 34) (oi := { dst := some 75, op := .index 9 (.tmp 69) (.tmp 74), type := 5, pos := "lex.go:149", after := #[{ on := 28, ground := .data }, { on := 33, ground := .data }, { on := 24, ground := .guard }], guard := some (24, false) }) (v := ?vqb34) rfl (by kernel_rfl) (by kernel_rfl) (by kernel_rfl) (fun _ _ _ h => h) (Or.inl ⟨by rfl, ?hyqb34⟩) (by assumption) ?restqb34
    case hyqb34 => (intro w hSw; (try dsimp only at hSw); go_simp; try with_reducible rfl)
    try simp only [Act.put, List.setIfInBounds_toArray, List.set_cons_zero, List.set_cons_succ]
    refine wpAnyH_ready (rs := [35]) (by kernel_rfl) (by simp) ?_
    refine AllReadyH.cons (o := { dst := some 76, op := .call { callee := .value (.func 47), args := #[.tmp 75], argTypes := #[5] }, type := 79, pos := "lex.go:149", after := #[{ on := 34, ground := .data }, { on := 24, ground := .chain }, { on := 24, ground := .guard }], guard := some (24, false) }) rfl (fun K hK => ?_) ?nilqb35
    case nilqb35 => exact AllReadyH.nil
    go_simp
    (with_reducible refine (CP.out _).mono ?_)
    rintro e w1 ⟨rfl, rfl⟩
    go_wp2_with fail
    refine hK.out _ _ ?Sqb35 (fun hH1 => ?restqb35)
    case Sqb35 => (exact hH0)
    clear hK K
    try simp only [Act.put, List.setIfInBounds_toArray, List.set_cons_zero, List.set_cons_succ]
    refine wpAnyH_take (i := 36) (oi := { dst := some 77, op := .binOp .eql 79 (.tmp 76) (.const (.int .i64 5)) 79, type := 4, pos := "lex.go:149", after := #[{ on := 35, ground := .data }, { on := 24, ground := .guard }], guard := some (24, false) }) (v := ?vqb36) rfl (by kernel_rfl) (by kernel_rfl) (by kernel_rfl) (fun _ _ _ h => h) (Or.inl ⟨by rfl, ?hyqb36⟩) (by assumption) ?restqb36
    case hyqb36 => (intro w hSw; (try dsimp only at hSw); go_simp; try with_reducible rfl)
    try simp only [Act.put, List.setIfInBounds_toArray, List.set_cons_zero, List.set_cons_succ]
    refine wpAnyH_take (i := 37) (oi := { dst := some 78, op := .pick (.tmp 65) (.const (.bool true)) (.tmp 77), type := 4, pos := "lex.go:149", after := #[{ on := 24, ground := .data }, { on := 36, ground := .data }], guard := none }) (v := ?vqb37) rfl (by kernel_rfl) (by kernel_rfl) (by kernel_rfl) (fun _ _ _ h => h) (Or.inl ⟨by rfl, ?hyqb37⟩) (by assumption) ?restqb37
    case hyqb37 => (intro w hSw; (try dsimp only at hSw); go_simp; try with_reducible rfl)
    try simp only [Act.put, List.setIfInBounds_toArray, List.set_cons_zero, List.set_cons_succ]
    refine wpAnyH_take (i := 38) (oi := { dst := some 4, op := .assign (.tmp 78), type := 4, pos := "lex.go:149", after := #[{ on := 37, ground := .data }, { on := 35, ground := .chain }, { on := 0, ground := .phase }, { on := 1, ground := .phase }, { on := 2, ground := .phase }, { on := 3, ground := .phase }, { on := 4, ground := .phase }, { on := 5, ground := .phase }, { on := 6, ground := .phase }, { on := 7, ground := .phase }, { on := 8, ground := .phase }, { on := 9, ground := .phase }, { on := 10, ground := .phase }, { on := 11, ground := .phase }, { on := 12, ground := .phase }, { on := 13, ground := .phase }, { on := 14, ground := .phase }, { on := 15, ground := .phase }, { on := 16, ground := .phase }, { on := 17, ground := .phase }, { on := 18, ground := .phase }, { on := 19, ground := .phase }, { on := 20, ground := .phase }, { on := 21, ground := .phase }, { on := 22, ground := .phase }, { on := 23, ground := .phase }, { on := 24, ground := .phase }, { on := 25, ground := .phase }, { on := 26, ground := .phase }, { on := 27, ground := .phase }, { on := 28, ground := .phase }, { on := 29, ground := .phase }, { on := 30, ground := .phase }, { on := 31, ground := .phase }, { on := 32, ground := .phase }, { on := 33, ground := .phase }, { on := 34, ground := .phase }, { on := 35, ground := .phase }, { on := 36, ground := .phase }, { on := 37, ground := .phase }], guard := none }) (v := ?vqb38) rfl (by kernel_rfl) (by kernel_rfl) (by kernel_rfl) (fun _ _ _ h => h) (Or.inl ⟨by rfl, ?hyqb38⟩) (by assumption) ?restqb38
    case hyqb38 => (intro w hSw; (try dsimp only at hSw); go_simp; try with_reducible rfl)
    try simp only [Act.put, List.setIfInBounds_toArray, List.set_cons_zero, List.set_cons_succ]
    refine wpAnyH_done (by kernel_rfl) ?_ _
    go_wp2_with fail
    go_meet
    case rel => exact ⟨by rw [HLA.out], rfl⟩
 case rest =>
  obtain ⟨rfl, rfl⟩ := hcut
  obtain ⟨lb, hlb⟩ : ∃ lb, lastB s f = lb := ⟨_, rfl⟩
  have HLB := Lib.hid hlb
  rw [hlb]
  clear hlb CO Y y0 y1 y2 yf
  have S0 := Lib.hid (show St W X T s f (.slice A l.length cp) l 0 ⟨#[]⟩ f W from ⟨SW.out, OW.out, TB0.out, fun g hg => HFAR.out g hg, hTX, Below.refl _ _⟩)
  go_upto_block 0 with fail
  go_cut [] (fun wx => ∃ (K : Int) (tx : ByteArray) (j : Nat), St W X T s f (.slice A l.length cp) l K tx j wx ∧ Hid (oneN s f l = .ok ⟨K, tx, f, j⟩))
  case first =>
   as_aux_lemma =>
    have hl1000 : ¬ l.length = 1000 := hmany
    obtain ⟨y0, y1, y2, yf⟩ := S0.out.sc.cells
    have hXl := S0.out.sc.lt
    have hTl := heap_lt S0.out.tb
    obtain ⟨t0, t1, t2, t3⟩ := box4t S0.out.tb
    have hXT : X ≠ T := by omega
    have hTX' : T ≠ X := by omega
    have tf : ∀ i, W.frozen? ⟨T, i, none⟩ = false := fun i => by simp [World.frozen?, S0.out.tb]
    have hfj : (f : Int) ≤ (f : Int) + 1 := by omega
    have hjs : (f : Int) + 1 ≤ (s.size : Int) := by omega
    have hwf : IntKind.i64.wrap ((f : Int) + 1) = (f : Int) + 1 := by rw [IntKind.wrap_i64]; omega
    have hcast : ((f + 1 : Nat) : Int) = (f : Int) + 1 := by omega
    cases h46 : ((bn s f : Int) == 46)
    case true =>
     have hv : (bn s f : Int) = 46 := by simpa using h46
     have HV := Lib.hid hv
     clear hv
     cases lb
     case true =>
      as_aux_lemma =>
       have hhd : headN s f l.getLast? = some (6, f + 1) := by unfold headN; rw [h46, show (decide (f + 1 = s.size) || blankB (bn s (f + 1)) || (bn s (f + 1) : Int) == 37) = true from HLB.out]; rfl
       have hq39 : ((bn s f : Int) == 39) = false := by rw [HV.out]; rfl
       have HONE := Lib.hid (show oneN s f l = .ok ⟨6, s.extract f (f + 1), f, f + 1⟩ by unfold oneN; rw [hhd]; dsimp only; rw [if_neg hl1000, hq39]; rfl)
       clear hhd hq39
       have r0 := (S0.out.k 6).t ⟨#[46]⟩
       have r1 := r0.at_ (f + 1)
       rw [hcast] at r1
       clear r0
       have R1 := Lib.hid r1
       clear r1
       go_wp2_with fail
       go_region
       go_wp2_with fail
       go_meet
       case rel => exact ⟨6, ⟨#[46]⟩, f + 1, (by first | exact R1.out | exact R1.out.drew | exact R1.out.drew.drew | exact R1.out.drew.drew.drew | exact R1.out.drew.drew.drew.drew | exact R1.out.drew.drew.drew.drew.drew), by rw [← ext_lit s f hf (c := 46) HV.out]; exact HONE⟩
     case false =>
      have hsm : smallB (bn s f) = false := by rw [HV.out]; decide
      have hgr : greatB (bn s f) = false := by rw [HV.out]; decide
      have hdi : digitB (bn s f) = false := by rw [HV.out]; decide
      have hsi : signB (bn s f) = true := by rw [HV.out]; decide +kernel
      as_aux_lemma =>
       have hhd : headN s f l.getLast? = some (1, runN 3 s f) := by unfold headN; rw [h46, show (decide (f + 1 = s.size) || blankB (bn s (f + 1)) || (bn s (f + 1) : Int) == 37) = false from HLB.out, hsm, hgr, hdi, hsi]; rfl
       have hq39 : ((bn s f : Int) == 39) = false := by rw [HV.out]; rfl
       have HONE := Lib.hid (show oneN s f l = .ok ⟨1, s.extract f (runN 3 s f), f, runN 3 s f⟩ by unfold oneN; rw [hhd]; dsimp only; rw [if_neg hl1000, hq39]; rfl)
       clear hhd hq39
       obtain rfl : cv = 4 := by rw [HCV.out]; unfold ofN; rw [hsm, hgr, hdi, hsi]; rfl
       have S2 := Lib.hid (S0.out.below (Below.refl _ _))
       clear S2
       go_wp2_with fail
       go_region
       go_wp2_with fail
       have SA := Lib.hid (S0.out.below ((Below.refl _ _).alloc (Nat.le_refl _) (.cells #[.int .i64 4] 79))).drew.drew.drew
       refine (while_any 3 [4] (by decide +kernel) s (by omega) SA.out.sc (by omega) (b := W.heap.size) (by omega) (by simp) (by decide) (cls_cells (w := W) (t := 79) [4])).mono ?_
       rintro e w1 ⟨rfl, hsc, hon⟩
       have r0 := SA.out.onx hon hsc
       have r1 := ((r0.k 1).t (s.extract f (runN 3 s f)))
       have R1 := Lib.hid r1
       obtain ⟨z0, z1, z2, zf⟩ := r0.sc.cells
       obtain ⟨t0, t1, t2, t3⟩ := box4t r0.tb
       have tf1 : ∀ i, w1.frozen? ⟨T, i, none⟩ = false := fun i => by simp [World.frozen?, r0.tb]
       have hT1 := heap_lt r0.tb
       clear r0 r1 hsc hon
       go_wp2_with fail
       go_meet
       case rel => exact ⟨1, s.extract f (runN 3 s f), runN 3 s f, (by first | exact R1.out | exact R1.out.drew | exact R1.out.drew.drew | exact R1.out.drew.drew.drew | exact R1.out.drew.drew.drew.drew | exact R1.out.drew.drew.drew.drew.drew), HONE⟩
    cases hsm : smallB (bn s f)
    case true =>
     have q39 : ((bn s f : Int) == 39) = false := by
      refine Bool.eq_false_iff.2 fun h => ?_
      rw [show (bn s f : Int) = 39 from by simpa using h] at hsm
      exact absurd hsm (by decide)
     as_aux_lemma =>
      have hhd : headN s f l.getLast? = some (1, runN 1 s f) := by unfold headN; rw [h46, hsm]; rfl
      have hq39 : ((bn s f : Int) == 39) = false := by exact q39
      have HONE := Lib.hid (show oneN s f l = .ok ⟨1, s.extract f (runN 1 s f), f, runN 1 s f⟩ by unfold oneN; rw [hhd]; dsimp only; rw [if_neg hl1000, hq39]; rfl)
      clear hhd hq39
      obtain rfl : cv = 1 := by rw [HCV.out]; unfold ofN; rw [hsm]; rfl
      have S2 := Lib.hid (S0.out.below (Below.refl _ _))
      clear S2
      go_wp2_with fail
      go_region
      go_wp2_with fail
      have SA := Lib.hid (S0.out.below ((Below.refl _ _).alloc (Nat.le_refl _) (.cells #[.int .i64 1, .int .i64 2, .int .i64 3] 79))).drew.drew.drew
      refine (while_any 1 [1, 2, 3] (by decide +kernel) s (by omega) SA.out.sc (by omega) (b := W.heap.size) (by omega) (by simp) (by decide) (cls_cells (w := W) (t := 79) [1, 2, 3])).mono ?_
      rintro e w1 ⟨rfl, hsc, hon⟩
      have r0 := SA.out.onx hon hsc
      have r1 := ((r0.k 1).t (s.extract f (runN 1 s f)))
      have R1 := Lib.hid r1
      obtain ⟨z0, z1, z2, zf⟩ := r0.sc.cells
      obtain ⟨t0, t1, t2, t3⟩ := box4t r0.tb
      have tf1 : ∀ i, w1.frozen? ⟨T, i, none⟩ = false := fun i => by simp [World.frozen?, r0.tb]
      have hT1 := heap_lt r0.tb
      clear r0 r1 hsc hon
      go_wp2_with fail
      go_meet
      case rel => exact ⟨1, s.extract f (runN 1 s f), runN 1 s f, (by first | exact R1.out | exact R1.out.drew | exact R1.out.drew.drew | exact R1.out.drew.drew.drew | exact R1.out.drew.drew.drew.drew | exact R1.out.drew.drew.drew.drew.drew), HONE⟩
    cases hgr : greatB (bn s f)
    case true =>
     have q39 : ((bn s f : Int) == 39) = false := by
      refine Bool.eq_false_iff.2 fun h => ?_
      rw [show (bn s f : Int) = 39 from by simpa using h] at hgr
      exact absurd hgr (by decide)
     as_aux_lemma =>
      have hhd : headN s f l.getLast? = some (2, runN 1 s f) := by unfold headN; rw [h46, hsm, hgr]; rfl
      have hq39 : ((bn s f : Int) == 39) = false := by exact q39
      have HONE := Lib.hid (show oneN s f l = .ok ⟨2, s.extract f (runN 1 s f), f, runN 1 s f⟩ by unfold oneN; rw [hhd]; dsimp only; rw [if_neg hl1000, hq39]; rfl)
      clear hhd hq39
      obtain rfl : cv = 2 := by rw [HCV.out]; unfold ofN; rw [hsm, hgr]; rfl
      have S2 := Lib.hid (S0.out.below (Below.refl _ _))
      clear S2
      go_wp2_with fail
      go_region
      go_wp2_with fail
      have SA := Lib.hid (S0.out.below ((Below.refl _ _).alloc (Nat.le_refl _) (.cells #[.int .i64 1, .int .i64 2, .int .i64 3] 79))).drew.drew.drew
      refine (while_any 1 [1, 2, 3] (by decide +kernel) s (by omega) SA.out.sc (by omega) (b := W.heap.size) (by omega) (by simp) (by decide) (cls_cells (w := W) (t := 79) [1, 2, 3])).mono ?_
      rintro e w1 ⟨rfl, hsc, hon⟩
      have r0 := SA.out.onx hon hsc
      have r1 := ((r0.k 2).t (s.extract f (runN 1 s f)))
      have R1 := Lib.hid r1
      obtain ⟨z0, z1, z2, zf⟩ := r0.sc.cells
      obtain ⟨t0, t1, t2, t3⟩ := box4t r0.tb
      have tf1 : ∀ i, w1.frozen? ⟨T, i, none⟩ = false := fun i => by simp [World.frozen?, r0.tb]
      have hT1 := heap_lt r0.tb
      clear r0 r1 hsc hon
      go_wp2_with fail
      go_meet
      case rel => exact ⟨2, s.extract f (runN 1 s f), runN 1 s f, (by first | exact R1.out | exact R1.out.drew | exact R1.out.drew.drew | exact R1.out.drew.drew.drew | exact R1.out.drew.drew.drew.drew | exact R1.out.drew.drew.drew.drew.drew), HONE⟩
    cases hdi : digitB (bn s f)
    case true =>
     have q39 : ((bn s f : Int) == 39) = false := by
      refine Bool.eq_false_iff.2 fun h => ?_
      rw [show (bn s f : Int) = 39 from by simpa using h] at hdi
      exact absurd hdi (by decide)
     as_aux_lemma =>
      have hhd : headN s f l.getLast? = some (3, runN 2 s f) := by unfold headN; rw [h46, hsm, hgr, hdi]; rfl
      have hq39 : ((bn s f : Int) == 39) = false := by exact q39
      have HONE := Lib.hid (show oneN s f l = .ok ⟨3, s.extract f (runN 2 s f), f, runN 2 s f⟩ by unfold oneN; rw [hhd]; dsimp only; rw [if_neg hl1000, hq39]; rfl)
      clear hhd hq39
      obtain rfl : cv = 3 := by rw [HCV.out]; unfold ofN; rw [hsm, hgr, hdi]; rfl
      have S2 := Lib.hid (S0.out.below (Below.refl _ _))
      clear S2
      go_wp2_with fail
      go_region
      go_wp2_with fail
      have SA := Lib.hid (S0.out.below ((Below.refl _ _).alloc (Nat.le_refl _) (.cells #[.int .i64 3] 79))).drew.drew.drew
      refine (while_any 2 [3] (by decide +kernel) s (by omega) SA.out.sc (by omega) (b := W.heap.size) (by omega) (by simp) (by decide) (cls_cells (w := W) (t := 79) [3])).mono ?_
      rintro e w1 ⟨rfl, hsc, hon⟩
      have r0 := SA.out.onx hon hsc
      have r1 := ((r0.k 3).t (s.extract f (runN 2 s f)))
      have R1 := Lib.hid r1
      obtain ⟨z0, z1, z2, zf⟩ := r0.sc.cells
      obtain ⟨t0, t1, t2, t3⟩ := box4t r0.tb
      have tf1 : ∀ i, w1.frozen? ⟨T, i, none⟩ = false := fun i => by simp [World.frozen?, r0.tb]
      have hT1 := heap_lt r0.tb
      clear r0 r1 hsc hon
      go_wp2_with fail
      go_meet
      case rel => exact ⟨3, s.extract f (runN 2 s f), runN 2 s f, (by first | exact R1.out | exact R1.out.drew | exact R1.out.drew.drew | exact R1.out.drew.drew.drew | exact R1.out.drew.drew.drew.drew | exact R1.out.drew.drew.drew.drew.drew), HONE⟩
    cases hsi : signB (bn s f)
    case true =>
     have q39 : ((bn s f : Int) == 39) = false := by
      refine Bool.eq_false_iff.2 fun h => ?_
      rw [show (bn s f : Int) = 39 from by simpa using h] at hsi
      exact absurd hsi (by decide +kernel)
     as_aux_lemma =>
      have hhd : headN s f l.getLast? = some (1, runN 3 s f) := by unfold headN; rw [h46, hsm, hgr, hdi, hsi]; rfl
      have hq39 : ((bn s f : Int) == 39) = false := by exact q39
      have HONE := Lib.hid (show oneN s f l = .ok ⟨1, s.extract f (runN 3 s f), f, runN 3 s f⟩ by unfold oneN; rw [hhd]; dsimp only; rw [if_neg hl1000, hq39]; rfl)
      clear hhd hq39
      obtain rfl : cv = 4 := by rw [HCV.out]; unfold ofN; rw [hsm, hgr, hdi, hsi]; rfl
      have S2 := Lib.hid (S0.out.below (Below.refl _ _))
      clear S2
      go_wp2_with fail
      go_region
      go_wp2_with fail
      have SA := Lib.hid (S0.out.below ((Below.refl _ _).alloc (Nat.le_refl _) (.cells #[.int .i64 4] 79))).drew.drew.drew
      refine (while_any 3 [4] (by decide +kernel) s (by omega) SA.out.sc (by omega) (b := W.heap.size) (by omega) (by simp) (by decide) (cls_cells (w := W) (t := 79) [4])).mono ?_
      rintro e w1 ⟨rfl, hsc, hon⟩
      have r0 := SA.out.onx hon hsc
      have r1 := ((r0.k 1).t (s.extract f (runN 3 s f)))
      have R1 := Lib.hid r1
      obtain ⟨z0, z1, z2, zf⟩ := r0.sc.cells
      obtain ⟨t0, t1, t2, t3⟩ := box4t r0.tb
      have tf1 : ∀ i, w1.frozen? ⟨T, i, none⟩ = false := fun i => by simp [World.frozen?, r0.tb]
      have hT1 := heap_lt r0.tb
      clear r0 r1 hsc hon
      go_wp2_with fail
      go_meet
      case rel => exact ⟨1, s.extract f (runN 3 s f), runN 3 s f, (by first | exact R1.out | exact R1.out.drew | exact R1.out.drew.drew | exact R1.out.drew.drew.drew | exact R1.out.drew.drew.drew.drew | exact R1.out.drew.drew.drew.drew.drew), HONE⟩
    cases hso : ((bn s f : Int) == 33 || (bn s f : Int) == 59)
    case true =>
     have q39 : ((bn s f : Int) == 39) = false := by
      refine Bool.eq_false_iff.2 fun h => ?_
      rw [show (bn s f : Int) = 39 from by simpa using h] at hso
      exact absurd hso (by decide)
     as_aux_lemma =>
      have hhd : headN s f l.getLast? = some (1, f + 1) := by unfold headN; rw [h46, hsm, hgr, hdi, hsi, hso]; rfl
      have hq39 : ((bn s f : Int) == 39) = false := by exact q39
      have HONE := Lib.hid (show oneN s f l = .ok ⟨1, s.extract f (f + 1), f, f + 1⟩ by unfold oneN; rw [hhd]; dsimp only; rw [if_neg hl1000, hq39]; rfl)
      clear hhd hq39
      obtain rfl : cv = 6 := by rw [HCV.out]; unfold ofN; rw [hsm, hgr, hdi, hsi, HNB.out, hso]; rfl
      have r0 := (S0.out.k 1).t (s.extract f (f + 1))
      have r1 := r0.at_ (f + 1)
      rw [hcast] at r1
      clear r0
      have R1 := Lib.hid r1
      clear r1
      go_wp2_with fail
      go_region
      go_wp2_with fail
      go_region
      go_wp2_with fail
      go_meet
      case rel => exact ⟨1, s.extract f (f + 1), f + 1, (by first | exact R1.out | exact R1.out.drew | exact R1.out.drew.drew | exact R1.out.drew.drew.drew | exact R1.out.drew.drew.drew.drew | exact R1.out.drew.drew.drew.drew.drew), HONE⟩
    cases h39 : ((bn s f : Int) == 39)
    case true =>
     as_aux_lemma =>
      obtain ⟨h33, h59⟩ := Bool.or_eq_false_iff.1 hso
      have hhd : headN s f l.getLast? = some (1, 0) := by unfold headN; rw [h46, hsm, hgr, hdi, hsi, h33, h59, h39]; rfl
      have HON := Lib.hid (show oneN s f l = (match quoN s f (f + 1) [] with | .ok t p => .ok ⟨1, ⟨t.toArray⟩, f, p⟩ | .bad p e => .bad p e) by unfold oneN; rw [hhd]; dsimp only; rw [if_neg hl1000, h39]; rfl)
      obtain rfl : cv = 8 := by rw [HCV.out, show (bn s f : Int) = 39 from by simpa using h39]; decide +kernel
      clear hhd
      have SA := Lib.hid S0.out.drew.drew.drew
      go_wp2_with fail
      go_region
      go_wp2_with fail
      refine (pquoted_any s hs SA.out.sc hf).mono ?_
      rintro e w1 ⟨hq1, hon⟩
      obtain ⟨qr, hqr⟩ : ∃ qr, quoN s f (f + 1) [] = qr := ⟨_, rfl⟩
      rw [hqr] at hq1 HON
      clear hqr
      cases qr with
      | ok t p =>
       obtain ⟨rfl, hsc⟩ := hq1
       have r0 := SA.out.onx hon hsc
       have r1 := ((r0.k 1).t ⟨t.toArray⟩)
       have R1 := Lib.hid r1
       obtain ⟨t0, t1, t2, t3⟩ := box4t r0.tb
       have tf1 : ∀ i, w1.frozen? ⟨T, i, none⟩ = false := fun i => by simp [World.frozen?, r0.tb]
       have hT1 := heap_lt r0.tb
       clear r0 r1 hsc hon
       go_wp2_with fail
       go_meet
       case rel => exact ⟨1, ⟨t.toArray⟩, p, (by first | exact R1.out | exact R1.out.drew | exact R1.out.drew.drew | exact R1.out.drew.drew.drew | exact R1.out.drew.drew.drew.drew | exact R1.out.drew.drew.drew.drew.drew), HON⟩
      | bad p er =>
       have hq2 : e = .panicked [wrongE p er] := hq1
       subst hq2
       have BF := Lib.hid (BW.out.mono (Nat.le_of_lt hX) |>.trans ((S0.out.drew.drew.drew.low).trans hon.low))
       clear hon
       go_wp2_with fail
       refine ⟨rfl, ?_⟩
       rw [HON.out]
       exact ⟨rfl, BF.out⟩
    cases hmk : markB (bn s f)
    case false =>
     obtain ⟨h33, h59⟩ := Bool.or_eq_false_iff.1 hso
     exfalso
     have := HHQ.out
     unfold headN at this
     rw [h46, hsm, hgr, hdi, hsi, h33, h59, h39, hmk] at this
     cases this
    obtain ⟨h33, h59⟩ := Bool.or_eq_false_iff.1 hso
    obtain rfl : cv = 7 := by rw [HCV.out]; unfold ofN; rw [hsm, hgr, hdi, hsi, HNB.out, hso, hmk]; rfl
    have HEX := Lib.hid (fun K => show headN s f l.getLast? = some (K, f + 1) → oneN s f l = .ok ⟨K, s.extract f (f + 1), f, f + 1⟩ from fun h => by unfold oneN; rw [h]; dsimp only; rw [if_neg hl1000, h39]; rfl)
    have hz : s.extract f (f + 1) = ⟨#[bu s f]⟩ := ByteArray.ext (Array.ext' (ext_one s f hf))
    have HZ := Lib.hid hz
    clear hz
    obtain ⟨tx, htx⟩ : ∃ tx, s.extract f (f + 1) = tx := ⟨_, rfl⟩
    have HTX := Lib.hid htx
    as_aux_lemma =>
     have r1 := ((S0.out.k 5).t tx)
     obtain ⟨u0, u1, u2, u3⟩ := box4t r1.tb
     have R0 := Lib.hid r1
     clear r1 htx
     go_wp2_with fail
     go_region
     go_wp2_with fail
     go_region
     rw [HTX.out]
     obtain ⟨V, hV⟩ : ∃ V, V = ((W.setCell ⟨T, 0, none⟩ (.int .i64 5)).setCell ⟨T, 1, none⟩ (.string tx)).drew.drew.drew.drew := ⟨_, rfl⟩
     have R2 := Lib.hid (show St W X T s f (.slice A l.length cp) l 5 tx f V from by rw [hV]; exact R0.out.drew.drew.drew.drew)
     rw [← hV]
     clear hV y0 y1 y2 yf t0 t1 t2 t3 tf u0 u1 u2 u3 hXl hTl R0
     obtain ⟨y0, y1, y2, yf⟩ := R2.out.sc.cells
     obtain ⟨t0, t1, t2, t3⟩ := box4t R2.out.tb
     have hXl := R2.out.sc.lt
     have hTl := heap_lt R2.out.tb
     have tf : ∀ i, V.frozen? ⟨T, i, none⟩ = false := fun i => by simp [World.frozen?, R2.out.tb]
     have htl : tx.toList = [bu s f] := by rw [← HTX.out, HZ.out, Lib.toList_data]
     have r1 := R2.out.at_ (f + 1)
     rw [hcast] at r1
     have R1 := Lib.hid r1
     clear r1
     go_wp2_with fail
     cases h40 : ((bn s f : Int) == 40)
     case false =>
      have hbu : ¬ bu s f = 40 := fun h => by rw [bn_bu, h] at h40; exact absurd h40 (by decide)
      have hte : (tx.toList == [40]) = false := by
       rw [htl]
       refine Bool.eq_false_iff.2 fun h => ?_
       have : bu s f = 40 := by simpa using h
       rw [bn_bu, this] at h40
       exact absurd h40 (by decide)
      have HONE := Lib.hid (HEX.out 5 (by unfold headN; rw [h46, hsm, hgr, hdi, hsi, h33, h59, h39, hmk, h40]; rfl))
      refine wp_region_held_drew (S := fun w1 => w1.cell? ⟨T, 1, none⟩ = some (.string tx) ∧ w1.cell? ⟨X, 1, none⟩ = some (.int .i64 (f : Int)) ∧ w1.cell? ⟨X, 2, none⟩ = some (.slice A l.length cp)) (by kernel_rfl) ?Sm1 (fun hH0 => ?Bm1)
      case Sm1 => (exact ⟨t1, y1, y2⟩)
      refine wpAnyH_take (i := 0) (oi := { dst := some 100, op := .fieldAddr 60 (.tmp 2) 1, type := 0, pos := "lex.go:169", after := #[], guard := none }) (v := ?vm10) rfl (by kernel_rfl) (by kernel_rfl) (by kernel_rfl) (fun _ _ _ h => h) (Or.inl ⟨by rfl, ?hym10⟩) (by assumption) ?restm10
      case hym10 => (intro w hSw; (try dsimp only at hSw); go_simp; try with_reducible rfl)
      try simp only [Act.put, List.setIfInBounds_toArray, List.set_cons_zero, List.set_cons_succ]
      refine wpAnyH_take (i := 1) (oi := { dst := some 101, op := .load 9 (.tmp 100), type := 9, pos := "lex.go:169", after := #[{ on := 0, ground := .data }], guard := none }) (v := ?vm11) rfl (by kernel_rfl) (by kernel_rfl) (by kernel_rfl) (fun _ _ _ h => h) (Or.inl ⟨by rfl, ?hym11⟩) (by assumption) ?restm11
      case hym11 => (intro w hSw; (try dsimp only at hSw); go_simp; try with_reducible rfl)
      try simp only [Act.put, List.setIfInBounds_toArray, List.set_cons_zero, List.set_cons_succ]
      refine wpAnyH_take (i := 2) (oi := { dst := some 102, op := .binOp .eql 9 (.tmp 101) (.const (.string { data := #[40] })) 9, type := 4, pos := "lex.go:169", after := #[{ on := 1, ground := .data }], guard := none }) (v := (Value.bool false)) rfl (by kernel_rfl) (by kernel_rfl) (by kernel_rfl) (fun _ _ _ h => h) (Or.inl ⟨by rfl, ?hym12⟩) (by assumption) ?restm12
      case hym12 => (intro w hSw; (try dsimp only at hSw); go_simp; try exact hbu)
      try simp only [Act.put, List.setIfInBounds_toArray, List.set_cons_zero, List.set_cons_succ]
      refine wpAnyH_take (i := 3) (oi := { dst := some 103, op := .move (.tmp 102), type := 4, pos := "lex.go:169", after := #[{ on := 2, ground := .data }], guard := none }) (v := ?vm13) rfl (by kernel_rfl) (by kernel_rfl) (by kernel_rfl) (fun _ _ _ h => h) (Or.inl ⟨by rfl, ?hym13⟩) (by assumption) ?restm13
      case hym13 => (intro w hSw; (try dsimp only at hSw); go_simp; try with_reducible rfl)
      try simp only [Act.put, List.setIfInBounds_toArray, List.set_cons_zero, List.set_cons_succ]
      refine wpAnyH_take (i := 4) (oi := { dst := some 104, op := .move (.tmp 5), type := 3, pos := "lex.go:169", after := #[{ on := 3, ground := .guard }], guard := some (3, true) }) (v := undef) rfl (by kernel_rfl) (by kernel_rfl) (by kernel_rfl) (fun _ _ _ h => h) (Or.inr ⟨by rfl, rfl⟩) (by assumption) ?restm14
      try simp only [Act.put, List.setIfInBounds_toArray, List.set_cons_zero, List.set_cons_succ]
      refine wpAnyH_take (i := 5) (oi := { dst := some 105, op := .binOp .gtr 3 (.tmp 104) (.const (.int .i64 0)) 3, type := 4, pos := "lex.go:169", after := #[{ on := 4, ground := .data }, { on := 3, ground := .guard }], guard := some (3, true) }) (v := undef) rfl (by kernel_rfl) (by kernel_rfl) (by kernel_rfl) (fun _ _ _ h => h) (Or.inr ⟨by rfl, rfl⟩) (by assumption) ?restm15
      try simp only [Act.put, List.setIfInBounds_toArray, List.set_cons_zero, List.set_cons_succ]
      refine wpAnyH_take (i := 6) (oi := { dst := some 106, op := .pick (.tmp 103) (.tmp 105) (.const (.bool false)), type := 4, pos := "lex.go:169", after := #[{ on := 3, ground := .data }, { on := 5, ground := .data }], guard := none }) (v := ?vm16) rfl (by kernel_rfl) (by kernel_rfl) (by kernel_rfl) (fun _ _ _ h => h) (Or.inl ⟨by rfl, ?hym16⟩) (by assumption) ?restm16
      case hym16 => (intro w hSw; (try dsimp only at hSw); go_simp; try with_reducible rfl)
      try simp only [Act.put, List.setIfInBounds_toArray, List.set_cons_zero, List.set_cons_succ]
      refine wpAnyH_take (i := 7) (oi := { dst := some 107, op := .move (.tmp 106), type := 4, pos := "lex.go:169", after := #[{ on := 6, ground := .data }, { on := 3, ground := .chain }], guard := none }) (v := ?vm17) rfl (by kernel_rfl) (by kernel_rfl) (by kernel_rfl) (fun _ _ _ h => h) (Or.inl ⟨by rfl, ?hym17⟩) (by assumption) ?restm17
      case hym17 => (intro w hSw; (try dsimp only at hSw); go_simp; try with_reducible rfl)
      try simp only [Act.put, List.setIfInBounds_toArray, List.set_cons_zero, List.set_cons_succ]
      refine wpAnyH_take (i := 8) (oi := { dst := some 108, op := .move (.tmp 0), type := 65, pos := "lex.go:169", after := #[{ on := 7, ground := .guard }], guard := some (7, true) }) (v := undef) rfl (by kernel_rfl) (by kernel_rfl) (by kernel_rfl) (fun _ _ _ h => h) (Or.inr ⟨by rfl, rfl⟩) (by assumption) ?restm18
      try simp only [Act.put, List.setIfInBounds_toArray, List.set_cons_zero, List.set_cons_succ]
      refine wpAnyH_take (i := 9) (oi := { dst := some 109, op := .nilCheck (.tmp 108), type := 0, pos := "lex.go:169", after := #[{ on := 8, ground := .data }, { on := 7, ground := .guard }], guard := some (7, true) }) (v := undef) rfl (by kernel_rfl) (by kernel_rfl) (by kernel_rfl) (fun _ _ _ h => h) (Or.inr ⟨by rfl, rfl⟩) (by assumption) ?restm19
      try simp only [Act.put, List.setIfInBounds_toArray, List.set_cons_zero, List.set_cons_succ]
      refine wpAnyH_take (i := 10) (oi := { dst := some 110, op := .fieldAddr 67 (.tmp 109) 2, type := 0, pos := "lex.go:169", after := #[{ on := 9, ground := .data }, { on := 7, ground := .guard }], guard := some (7, true) }) (v := undef) rfl (by kernel_rfl) (by kernel_rfl) (by kernel_rfl) (fun _ _ _ h => h) (Or.inr ⟨by rfl, rfl⟩) (by assumption) ?restm110
      try simp only [Act.put, List.setIfInBounds_toArray, List.set_cons_zero, List.set_cons_succ]
      refine wpAnyH_take (i := 11) (oi := { dst := some 111, op := .load 46 (.tmp 110), type := 46, pos := "lex.go:169", after := #[{ on := 10, ground := .data }, { on := 7, ground := .guard }], guard := some (7, true) }) (v := undef) rfl (by kernel_rfl) (by kernel_rfl) (by kernel_rfl) (fun _ _ _ h => h) (Or.inr ⟨by rfl, rfl⟩) (by assumption) ?restm111
      try simp only [Act.put, List.setIfInBounds_toArray, List.set_cons_zero, List.set_cons_succ]
      refine wpAnyH_take (i := 12) (oi := { dst := some 112, op := .move (.tmp 5), type := 3, pos := "lex.go:169", after := #[{ on := 7, ground := .guard }], guard := some (7, true) }) (v := undef) rfl (by kernel_rfl) (by kernel_rfl) (by kernel_rfl) (fun _ _ _ h => h) (Or.inr ⟨by rfl, rfl⟩) (by assumption) ?restm112
      try simp only [Act.put, List.setIfInBounds_toArray, List.set_cons_zero, List.set_cons_succ]
      refine wpAnyH_take (i := 13) (oi := { dst := some 113, op := .binOp .sub 3 (.tmp 112) (.const (.int .i64 1)) 3, type := 3, pos := "lex.go:169", after := #[{ on := 12, ground := .data }, { on := 7, ground := .guard }], guard := some (7, true) }) (v := undef) rfl (by kernel_rfl) (by kernel_rfl) (by kernel_rfl) (fun _ _ _ h => h) (Or.inr ⟨by rfl, rfl⟩) (by assumption) ?restm113
      try simp only [Act.put, List.setIfInBounds_toArray, List.set_cons_zero, List.set_cons_succ]
      refine wpAnyH_take (i := 14) (oi := { dst := some 114, op := .indexAddr 46 (.tmp 111) (.tmp 113), type := 0, pos := "lex.go:169", after := #[{ on := 11, ground := .data }, { on := 13, ground := .data }, { on := 7, ground := .guard }], guard := some (7, true) }) (v := undef) rfl (by kernel_rfl) (by kernel_rfl) (by kernel_rfl) (fun _ _ _ h => h) (Or.inr ⟨by rfl, rfl⟩) (by assumption) ?restm114
      try simp only [Act.put, List.setIfInBounds_toArray, List.set_cons_zero, List.set_cons_succ]
      refine wpAnyH_take (i := 15) (oi := { dst := some 115, op := .fieldAddr 60 (.tmp 114) 0, type := 0, pos := "lex.go:169", after := #[{ on := 14, ground := .data }, { on := 7, ground := .guard }], guard := some (7, true) }) (v := undef) rfl (by kernel_rfl) (by kernel_rfl) (by kernel_rfl) (fun _ _ _ h => h) (Or.inr ⟨by rfl, rfl⟩) (by assumption) ?restm115
      try simp only [Act.put, List.setIfInBounds_toArray, List.set_cons_zero, List.set_cons_succ]
      refine wpAnyH_take (i := 16) (oi := { dst := some 116, op := .load 3 (.tmp 115), type := 3, pos := "lex.go:169", after := #[{ on := 15, ground := .data }, { on := 7, ground := .guard }], guard := some (7, true) }) (v := undef) rfl (by kernel_rfl) (by kernel_rfl) (by kernel_rfl) (fun _ _ _ h => h) (Or.inr ⟨by rfl, rfl⟩) (by assumption) ?restm116
      try simp only [Act.put, List.setIfInBounds_toArray, List.set_cons_zero, List.set_cons_succ]
      refine wpAnyH_take (i := 17) (oi := { dst := some 117, op := .binOp .eql 3 (.tmp 116) (.const (.int .i64 1)) 3, type := 4, pos := "lex.go:169", after := #[{ on := 16, ground := .data }, { on := 7, ground := .guard }], guard := some (7, true) }) (v := undef) rfl (by kernel_rfl) (by kernel_rfl) (by kernel_rfl) (fun _ _ _ h => h) (Or.inr ⟨by rfl, rfl⟩) (by assumption) ?restm117
      try simp only [Act.put, List.setIfInBounds_toArray, List.set_cons_zero, List.set_cons_succ]
      refine wpAnyH_take (i := 18) (oi := { dst := some 118, op := .pick (.tmp 107) (.tmp 117) (.const (.bool false)), type := 4, pos := "lex.go:169", after := #[{ on := 7, ground := .data }, { on := 17, ground := .data }], guard := none }) (v := ?vm118) rfl (by kernel_rfl) (by kernel_rfl) (by kernel_rfl) (fun _ _ _ h => h) (Or.inl ⟨by rfl, ?hym118⟩) (by assumption) ?restm118
      case hym118 => (intro w hSw; (try dsimp only at hSw); go_simp; try with_reducible rfl)
      try simp only [Act.put, List.setIfInBounds_toArray, List.set_cons_zero, List.set_cons_succ]
      refine wpAnyH_take (i := 19) (oi := { dst := some 119, op := .move (.tmp 118), type := 4, pos := "lex.go:169", after := #[{ on := 18, ground := .data }, { on := 7, ground := .chain }], guard := none }) (v := ?vm119) rfl (by kernel_rfl) (by kernel_rfl) (by kernel_rfl) (fun _ _ _ h => h) (Or.inl ⟨by rfl, ?hym119⟩) (by assumption) ?restm119
      case hym119 => (intro w hSw; (try dsimp only at hSw); go_simp; try with_reducible rfl)
      try simp only [Act.put, List.setIfInBounds_toArray, List.set_cons_zero, List.set_cons_succ]
      refine wpAnyH_take (i := 20) (oi := { dst := some 120, op := .move (.tmp 0), type := 65, pos := "lex.go:169", after := #[{ on := 19, ground := .guard }], guard := some (19, true) }) (v := undef) rfl (by kernel_rfl) (by kernel_rfl) (by kernel_rfl) (fun _ _ _ h => h) (Or.inr ⟨by rfl, rfl⟩) (by assumption) ?restm120
      try simp only [Act.put, List.setIfInBounds_toArray, List.set_cons_zero, List.set_cons_succ]
      refine wpAnyH_take (i := 21) (oi := { dst := some 121, op := .nilCheck (.tmp 120), type := 0, pos := "lex.go:169", after := #[{ on := 20, ground := .data }, { on := 19, ground := .guard }], guard := some (19, true) }) (v := undef) rfl (by kernel_rfl) (by kernel_rfl) (by kernel_rfl) (fun _ _ _ h => h) (Or.inr ⟨by rfl, rfl⟩) (by assumption) ?restm121
      try simp only [Act.put, List.setIfInBounds_toArray, List.set_cons_zero, List.set_cons_succ]
      refine wpAnyH_take (i := 22) (oi := { dst := some 122, op := .fieldAddr 67 (.tmp 121) 2, type := 0, pos := "lex.go:169", after := #[{ on := 21, ground := .data }, { on := 19, ground := .guard }], guard := some (19, true) }) (v := undef) rfl (by kernel_rfl) (by kernel_rfl) (by kernel_rfl) (fun _ _ _ h => h) (Or.inr ⟨by rfl, rfl⟩) (by assumption) ?restm122
      try simp only [Act.put, List.setIfInBounds_toArray, List.set_cons_zero, List.set_cons_succ]
      refine wpAnyH_take (i := 23) (oi := { dst := some 123, op := .load 46 (.tmp 122), type := 46, pos := "lex.go:169", after := #[{ on := 22, ground := .data }, { on := 19, ground := .guard }], guard := some (19, true) }) (v := undef) rfl (by kernel_rfl) (by kernel_rfl) (by kernel_rfl) (fun _ _ _ h => h) (Or.inr ⟨by rfl, rfl⟩) (by assumption) ?restm123
      try simp only [Act.put, List.setIfInBounds_toArray, List.set_cons_zero, List.set_cons_succ]
      refine wpAnyH_take (i := 24) (oi := { dst := some 124, op := .move (.tmp 5), type := 3, pos := "lex.go:169", after := #[{ on := 19, ground := .guard }], guard := some (19, true) }) (v := undef) rfl (by kernel_rfl) (by kernel_rfl) (by kernel_rfl) (fun _ _ _ h => h) (Or.inr ⟨by rfl, rfl⟩) (by assumption) ?restm124
      try simp only [Act.put, List.setIfInBounds_toArray, List.set_cons_zero, List.set_cons_succ]
      refine wpAnyH_take (i := 25) (oi := { dst := some 125, op := .binOp .sub 3 (.tmp 124) (.const (.int .i64 1)) 3, type := 3, pos := "lex.go:169", after := #[{ on := 24, ground := .data }, { on := 19, ground := .guard }], guard := some (19, true) }) (v := undef) rfl (by kernel_rfl) (by kernel_rfl) (by kernel_rfl) (fun _ _ _ h => h) (Or.inr ⟨by rfl, rfl⟩) (by assumption) ?restm125
      try simp only [Act.put, List.setIfInBounds_toArray, List.set_cons_zero, List.set_cons_succ]
      refine wpAnyH_take (i := 26) (oi := { dst := some 126, op := .indexAddr 46 (.tmp 123) (.tmp 125), type := 0, pos := "lex.go:169", after := #[{ on := 23, ground := .data }, { on := 25, ground := .data }, { on := 19, ground := .guard }], guard := some (19, true) }) (v := undef) rfl (by kernel_rfl) (by kernel_rfl) (by kernel_rfl) (fun _ _ _ h => h) (Or.inr ⟨by rfl, rfl⟩) (by assumption) ?restm126
      try simp only [Act.put, List.setIfInBounds_toArray, List.set_cons_zero, List.set_cons_succ]
      refine wpAnyH_take (i := 27) (oi := { dst := some 127, op := .fieldAddr 60 (.tmp 126) 3, type := 0, pos := "lex.go:169", after := #[{ on := 26, ground := .data }, { on := 19, ground := .guard }], guard := some (19, true) }) (v := undef) rfl (by kernel_rfl) (by kernel_rfl) (by kernel_rfl) (fun _ _ _ h => h) (Or.inr ⟨by rfl, rfl⟩) (by assumption) ?restm127
      try simp only [Act.put, List.setIfInBounds_toArray, List.set_cons_zero, List.set_cons_succ]
      refine wpAnyH_take (i := 28) (oi := { dst := some 128, op := .load 3 (.tmp 127), type := 3, pos := "lex.go:169", after := #[{ on := 27, ground := .data }, { on := 19, ground := .guard }], guard := some (19, true) }) (v := undef) rfl (by kernel_rfl) (by kernel_rfl) (by kernel_rfl) (fun _ _ _ h => h) (Or.inr ⟨by rfl, rfl⟩) (by assumption) ?restm128
      try simp only [Act.put, List.setIfInBounds_toArray, List.set_cons_zero, List.set_cons_succ]
      refine wpAnyH_take (i := 29) (oi := { dst := some 129, op := .move (.tmp 0), type := 65, pos := "lex.go:169", after := #[{ on := 19, ground := .guard }], guard := some (19, true) }) (v := undef) rfl (by kernel_rfl) (by kernel_rfl) (by kernel_rfl) (fun _ _ _ h => h) (Or.inr ⟨by rfl, rfl⟩) (by assumption) ?restm129
      try simp only [Act.put, List.setIfInBounds_toArray, List.set_cons_zero, List.set_cons_succ]
      refine wpAnyH_take (i := 30) (oi := { dst := some 130, op := .nilCheck (.tmp 129), type := 0, pos := "lex.go:169", after := #[{ on := 29, ground := .data }, { on := 19, ground := .guard }], guard := some (19, true) }) (v := undef) rfl (by kernel_rfl) (by kernel_rfl) (by kernel_rfl) (fun _ _ _ h => h) (Or.inr ⟨by rfl, rfl⟩) (by assumption) ?restm130
      try simp only [Act.put, List.setIfInBounds_toArray, List.set_cons_zero, List.set_cons_succ]
      refine wpAnyH_take (i := 31) (oi := { dst := some 131, op := .fieldAddr 67 (.tmp 130) 1, type := 0, pos := "lex.go:169", after := #[{ on := 30, ground := .data }, { on := 19, ground := .guard }], guard := some (19, true) }) (v := undef) rfl (by kernel_rfl) (by kernel_rfl) (by kernel_rfl) (fun _ _ _ h => h) (Or.inr ⟨by rfl, rfl⟩) (by assumption) ?restm131
      try simp only [Act.put, List.setIfInBounds_toArray, List.set_cons_zero, List.set_cons_succ]
      refine wpAnyH_take (i := 32) (oi := { dst := some 132, op := .load 3 (.tmp 131), type := 3, pos := "lex.go:169", after := #[{ on := 31, ground := .data }, { on := 19, ground := .guard }], guard := some (19, true) }) (v := undef) rfl (by kernel_rfl) (by kernel_rfl) (by kernel_rfl) (fun _ _ _ h => h) (Or.inr ⟨by rfl, rfl⟩) (by assumption) ?restm132
      try simp only [Act.put, List.setIfInBounds_toArray, List.set_cons_zero, List.set_cons_succ]
      refine wpAnyH_take (i := 33) (oi := { dst := some 133, op := .binOp .eql 3 (.tmp 128) (.tmp 132) 3, type := 4, pos := "lex.go:169", after := #[{ on := 28, ground := .data }, { on := 32, ground := .data }, { on := 19, ground := .guard }], guard := some (19, true) }) (v := undef) rfl (by kernel_rfl) (by kernel_rfl) (by kernel_rfl) (fun _ _ _ h => h) (Or.inr ⟨by rfl, rfl⟩) (by assumption) ?restm133
      try simp only [Act.put, List.setIfInBounds_toArray, List.set_cons_zero, List.set_cons_succ]
      refine wpAnyH_take (i := 34) (oi := { dst := some 134, op := .pick (.tmp 119) (.tmp 133) (.const (.bool false)), type := 4, pos := "lex.go:169", after := #[{ on := 19, ground := .data }, { on := 33, ground := .data }], guard := none }) (v := ?vm134) rfl (by kernel_rfl) (by kernel_rfl) (by kernel_rfl) (fun _ _ _ h => h) (Or.inl ⟨by rfl, ?hym134⟩) (by assumption) ?restm134
      case hym134 => (intro w hSw; (try dsimp only at hSw); go_simp; try with_reducible rfl)
      try simp only [Act.put, List.setIfInBounds_toArray, List.set_cons_zero, List.set_cons_succ]
      refine wpAnyH_done (by kernel_rfl) ?_ _
      go_wp2_with fail
      go_meet
      case rel => exact ⟨5, tx, f + 1, (by first | exact R1.out | exact R1.out.drew | exact R1.out.drew.drew | exact R1.out.drew.drew.drew | exact R1.out.drew.drew.drew.drew | exact R1.out.drew.drew.drew.drew.drew), by rw [← HTX.out]; exact HONE⟩
     have hbu : bu s f = 40 := bu_of (c := 40) (show (bn s f : Int) = 40 from by simpa using h40) rfl
     have hte : (tx.toList == [40]) = true := by rw [htl, hbu]; rfl
     rcases Nat.eq_zero_or_pos l.length with hn0 | hn0
     ·have hng : ¬ (l.length : Int) > 0 := by omega
      have HO := Lib.hid (show l.getLast? = none by rw [List.eq_nil_of_length_eq_zero hn0]; rfl)
      have HONE := Lib.hid (HEX.out 5 (by unfold headN; rw [HO.out, h46, hsm, hgr, hdi, hsi, h33, h59, h39, hmk, h40]; rfl))
      refine wp_region_held_drew (S := fun w1 => w1.cell? ⟨T, 1, none⟩ = some (.string tx) ∧ w1.cell? ⟨X, 1, none⟩ = some (.int .i64 (f : Int)) ∧ w1.cell? ⟨X, 2, none⟩ = some (.slice A l.length cp)) (by kernel_rfl) ?Sm2 (fun hH0 => ?Bm2)
      case Sm2 => (exact ⟨t1, y1, y2⟩)
      refine wpAnyH_take (i := 0) (oi := { dst := some 100, op := .fieldAddr 60 (.tmp 2) 1, type := 0, pos := "lex.go:169", after := #[], guard := none }) (v := ?vm20) rfl (by kernel_rfl) (by kernel_rfl) (by kernel_rfl) (fun _ _ _ h => h) (Or.inl ⟨by rfl, ?hym20⟩) (by assumption) ?restm20
      case hym20 => (intro w hSw; (try dsimp only at hSw); go_simp; try with_reducible rfl)
      try simp only [Act.put, List.setIfInBounds_toArray, List.set_cons_zero, List.set_cons_succ]
      refine wpAnyH_take (i := 1) (oi := { dst := some 101, op := .load 9 (.tmp 100), type := 9, pos := "lex.go:169", after := #[{ on := 0, ground := .data }], guard := none }) (v := ?vm21) rfl (by kernel_rfl) (by kernel_rfl) (by kernel_rfl) (fun _ _ _ h => h) (Or.inl ⟨by rfl, ?hym21⟩) (by assumption) ?restm21
      case hym21 => (intro w hSw; (try dsimp only at hSw); go_simp; try with_reducible rfl)
      try simp only [Act.put, List.setIfInBounds_toArray, List.set_cons_zero, List.set_cons_succ]
      refine wpAnyH_take (i := 2) (oi := { dst := some 102, op := .binOp .eql 9 (.tmp 101) (.const (.string { data := #[40] })) 9, type := 4, pos := "lex.go:169", after := #[{ on := 1, ground := .data }], guard := none }) (v := (Value.bool true)) rfl (by kernel_rfl) (by kernel_rfl) (by kernel_rfl) (fun _ _ _ h => h) (Or.inl ⟨by rfl, ?hym22⟩) (by assumption) ?restm22
      case hym22 => (intro w hSw; (try dsimp only at hSw); go_simp; try exact hbu)
      try simp only [Act.put, List.setIfInBounds_toArray, List.set_cons_zero, List.set_cons_succ]
      refine wpAnyH_take (i := 3) (oi := { dst := some 103, op := .move (.tmp 102), type := 4, pos := "lex.go:169", after := #[{ on := 2, ground := .data }], guard := none }) (v := ?vm23) rfl (by kernel_rfl) (by kernel_rfl) (by kernel_rfl) (fun _ _ _ h => h) (Or.inl ⟨by rfl, ?hym23⟩) (by assumption) ?restm23
      case hym23 => (intro w hSw; (try dsimp only at hSw); go_simp; try with_reducible rfl)
      try simp only [Act.put, List.setIfInBounds_toArray, List.set_cons_zero, List.set_cons_succ]
      refine wpAnyH_take (i := 4) (oi := { dst := some 104, op := .move (.tmp 5), type := 3, pos := "lex.go:169", after := #[{ on := 3, ground := .guard }], guard := some (3, true) }) (v := ?vm24) rfl (by kernel_rfl) (by kernel_rfl) (by kernel_rfl) (fun _ _ _ h => h) (Or.inl ⟨by rfl, ?hym24⟩) (by assumption) ?restm24
      case hym24 => (intro w hSw; (try dsimp only at hSw); go_simp; try with_reducible rfl)
      try simp only [Act.put, List.setIfInBounds_toArray, List.set_cons_zero, List.set_cons_succ]
      refine wpAnyH_take (i := 5) (oi := { dst := some 105, op := .binOp .gtr 3 (.tmp 104) (.const (.int .i64 0)) 3, type := 4, pos := "lex.go:169", after := #[{ on := 4, ground := .data }, { on := 3, ground := .guard }], guard := some (3, true) }) (v := ?vm25) rfl (by kernel_rfl) (by kernel_rfl) (by kernel_rfl) (fun _ _ _ h => h) (Or.inl ⟨by rfl, ?hym25⟩) (by assumption) ?restm25
      case hym25 => (intro w hSw; (try dsimp only at hSw); go_simp; try with_reducible rfl)
      try simp only [Act.put, List.setIfInBounds_toArray, List.set_cons_zero, List.set_cons_succ]
      refine wpAnyH_take (i := 6) (oi := { dst := some 106, op := .pick (.tmp 103) (.tmp 105) (.const (.bool false)), type := 4, pos := "lex.go:169", after := #[{ on := 3, ground := .data }, { on := 5, ground := .data }], guard := none }) (v := ?vm26) rfl (by kernel_rfl) (by kernel_rfl) (by kernel_rfl) (fun _ _ _ h => h) (Or.inl ⟨by rfl, ?hym26⟩) (by assumption) ?restm26
      case hym26 => (intro w hSw; (try dsimp only at hSw); go_simp; try with_reducible rfl)
      try simp only [Act.put, List.setIfInBounds_toArray, List.set_cons_zero, List.set_cons_succ]
      refine wpAnyH_take (i := 7) (oi := { dst := some 107, op := .move (.tmp 106), type := 4, pos := "lex.go:169", after := #[{ on := 6, ground := .data }, { on := 3, ground := .chain }], guard := none }) (v := ?vm27) rfl (by kernel_rfl) (by kernel_rfl) (by kernel_rfl) (fun _ _ _ h => h) (Or.inl ⟨by rfl, ?hym27⟩) (by assumption) ?restm27
      case hym27 => (intro w hSw; (try dsimp only at hSw); go_simp; try with_reducible rfl)
      try simp only [Act.put, List.setIfInBounds_toArray, List.set_cons_zero, List.set_cons_succ]
      refine wpAnyH_take (i := 8) (oi := { dst := some 108, op := .move (.tmp 0), type := 65, pos := "lex.go:169", after := #[{ on := 7, ground := .guard }], guard := some (7, true) }) (v := undef) rfl (by kernel_rfl) (by kernel_rfl) (by kernel_rfl) (fun _ _ _ h => h) (Or.inr ⟨by rfl, rfl⟩) (by assumption) ?restm28
      try simp only [Act.put, List.setIfInBounds_toArray, List.set_cons_zero, List.set_cons_succ]
      refine wpAnyH_take (i := 9) (oi := { dst := some 109, op := .nilCheck (.tmp 108), type := 0, pos := "lex.go:169", after := #[{ on := 8, ground := .data }, { on := 7, ground := .guard }], guard := some (7, true) }) (v := undef) rfl (by kernel_rfl) (by kernel_rfl) (by kernel_rfl) (fun _ _ _ h => h) (Or.inr ⟨by rfl, rfl⟩) (by assumption) ?restm29
      try simp only [Act.put, List.setIfInBounds_toArray, List.set_cons_zero, List.set_cons_succ]
      refine wpAnyH_take (i := 10) (oi := { dst := some 110, op := .fieldAddr 67 (.tmp 109) 2, type := 0, pos := "lex.go:169", after := #[{ on := 9, ground := .data }, { on := 7, ground := .guard }], guard := some (7, true) }) (v := undef) rfl (by kernel_rfl) (by kernel_rfl) (by kernel_rfl) (fun _ _ _ h => h) (Or.inr ⟨by rfl, rfl⟩) (by assumption) ?restm210
      try simp only [Act.put, List.setIfInBounds_toArray, List.set_cons_zero, List.set_cons_succ]
      refine wpAnyH_take (i := 11) (oi := { dst := some 111, op := .load 46 (.tmp 110), type := 46, pos := "lex.go:169", after := #[{ on := 10, ground := .data }, { on := 7, ground := .guard }], guard := some (7, true) }) (v := undef) rfl (by kernel_rfl) (by kernel_rfl) (by kernel_rfl) (fun _ _ _ h => h) (Or.inr ⟨by rfl, rfl⟩) (by assumption) ?restm211
      try simp only [Act.put, List.setIfInBounds_toArray, List.set_cons_zero, List.set_cons_succ]
      refine wpAnyH_take (i := 12) (oi := { dst := some 112, op := .move (.tmp 5), type := 3, pos := "lex.go:169", after := #[{ on := 7, ground := .guard }], guard := some (7, true) }) (v := undef) rfl (by kernel_rfl) (by kernel_rfl) (by kernel_rfl) (fun _ _ _ h => h) (Or.inr ⟨by rfl, rfl⟩) (by assumption) ?restm212
      try simp only [Act.put, List.setIfInBounds_toArray, List.set_cons_zero, List.set_cons_succ]
      refine wpAnyH_take (i := 13) (oi := { dst := some 113, op := .binOp .sub 3 (.tmp 112) (.const (.int .i64 1)) 3, type := 3, pos := "lex.go:169", after := #[{ on := 12, ground := .data }, { on := 7, ground := .guard }], guard := some (7, true) }) (v := undef) rfl (by kernel_rfl) (by kernel_rfl) (by kernel_rfl) (fun _ _ _ h => h) (Or.inr ⟨by rfl, rfl⟩) (by assumption) ?restm213
      try simp only [Act.put, List.setIfInBounds_toArray, List.set_cons_zero, List.set_cons_succ]
      refine wpAnyH_take (i := 14) (oi := { dst := some 114, op := .indexAddr 46 (.tmp 111) (.tmp 113), type := 0, pos := "lex.go:169", after := #[{ on := 11, ground := .data }, { on := 13, ground := .data }, { on := 7, ground := .guard }], guard := some (7, true) }) (v := undef) rfl (by kernel_rfl) (by kernel_rfl) (by kernel_rfl) (fun _ _ _ h => h) (Or.inr ⟨by rfl, rfl⟩) (by assumption) ?restm214
      try simp only [Act.put, List.setIfInBounds_toArray, List.set_cons_zero, List.set_cons_succ]
      refine wpAnyH_take (i := 15) (oi := { dst := some 115, op := .fieldAddr 60 (.tmp 114) 0, type := 0, pos := "lex.go:169", after := #[{ on := 14, ground := .data }, { on := 7, ground := .guard }], guard := some (7, true) }) (v := undef) rfl (by kernel_rfl) (by kernel_rfl) (by kernel_rfl) (fun _ _ _ h => h) (Or.inr ⟨by rfl, rfl⟩) (by assumption) ?restm215
      try simp only [Act.put, List.setIfInBounds_toArray, List.set_cons_zero, List.set_cons_succ]
      refine wpAnyH_take (i := 16) (oi := { dst := some 116, op := .load 3 (.tmp 115), type := 3, pos := "lex.go:169", after := #[{ on := 15, ground := .data }, { on := 7, ground := .guard }], guard := some (7, true) }) (v := undef) rfl (by kernel_rfl) (by kernel_rfl) (by kernel_rfl) (fun _ _ _ h => h) (Or.inr ⟨by rfl, rfl⟩) (by assumption) ?restm216
      try simp only [Act.put, List.setIfInBounds_toArray, List.set_cons_zero, List.set_cons_succ]
      refine wpAnyH_take (i := 17) (oi := { dst := some 117, op := .binOp .eql 3 (.tmp 116) (.const (.int .i64 1)) 3, type := 4, pos := "lex.go:169", after := #[{ on := 16, ground := .data }, { on := 7, ground := .guard }], guard := some (7, true) }) (v := undef) rfl (by kernel_rfl) (by kernel_rfl) (by kernel_rfl) (fun _ _ _ h => h) (Or.inr ⟨by rfl, rfl⟩) (by assumption) ?restm217
      try simp only [Act.put, List.setIfInBounds_toArray, List.set_cons_zero, List.set_cons_succ]
      refine wpAnyH_take (i := 18) (oi := { dst := some 118, op := .pick (.tmp 107) (.tmp 117) (.const (.bool false)), type := 4, pos := "lex.go:169", after := #[{ on := 7, ground := .data }, { on := 17, ground := .data }], guard := none }) (v := ?vm218) rfl (by kernel_rfl) (by kernel_rfl) (by kernel_rfl) (fun _ _ _ h => h) (Or.inl ⟨by rfl, ?hym218⟩) (by assumption) ?restm218
      case hym218 => (intro w hSw; (try dsimp only at hSw); go_simp; try with_reducible rfl)
      try simp only [Act.put, List.setIfInBounds_toArray, List.set_cons_zero, List.set_cons_succ]
      refine wpAnyH_take (i := 19) (oi := { dst := some 119, op := .move (.tmp 118), type := 4, pos := "lex.go:169", after := #[{ on := 18, ground := .data }, { on := 7, ground := .chain }], guard := none }) (v := ?vm219) rfl (by kernel_rfl) (by kernel_rfl) (by kernel_rfl) (fun _ _ _ h => h) (Or.inl ⟨by rfl, ?hym219⟩) (by assumption) ?restm219
      case hym219 => (intro w hSw; (try dsimp only at hSw); go_simp; try with_reducible rfl)
      try simp only [Act.put, List.setIfInBounds_toArray, List.set_cons_zero, List.set_cons_succ]
      refine wpAnyH_take (i := 20) (oi := { dst := some 120, op := .move (.tmp 0), type := 65, pos := "lex.go:169", after := #[{ on := 19, ground := .guard }], guard := some (19, true) }) (v := undef) rfl (by kernel_rfl) (by kernel_rfl) (by kernel_rfl) (fun _ _ _ h => h) (Or.inr ⟨by rfl, rfl⟩) (by assumption) ?restm220
      try simp only [Act.put, List.setIfInBounds_toArray, List.set_cons_zero, List.set_cons_succ]
      refine wpAnyH_take (i := 21) (oi := { dst := some 121, op := .nilCheck (.tmp 120), type := 0, pos := "lex.go:169", after := #[{ on := 20, ground := .data }, { on := 19, ground := .guard }], guard := some (19, true) }) (v := undef) rfl (by kernel_rfl) (by kernel_rfl) (by kernel_rfl) (fun _ _ _ h => h) (Or.inr ⟨by rfl, rfl⟩) (by assumption) ?restm221
      try simp only [Act.put, List.setIfInBounds_toArray, List.set_cons_zero, List.set_cons_succ]
      refine wpAnyH_take (i := 22) (oi := { dst := some 122, op := .fieldAddr 67 (.tmp 121) 2, type := 0, pos := "lex.go:169", after := #[{ on := 21, ground := .data }, { on := 19, ground := .guard }], guard := some (19, true) }) (v := undef) rfl (by kernel_rfl) (by kernel_rfl) (by kernel_rfl) (fun _ _ _ h => h) (Or.inr ⟨by rfl, rfl⟩) (by assumption) ?restm222
      try simp only [Act.put, List.setIfInBounds_toArray, List.set_cons_zero, List.set_cons_succ]
      refine wpAnyH_take (i := 23) (oi := { dst := some 123, op := .load 46 (.tmp 122), type := 46, pos := "lex.go:169", after := #[{ on := 22, ground := .data }, { on := 19, ground := .guard }], guard := some (19, true) }) (v := undef) rfl (by kernel_rfl) (by kernel_rfl) (by kernel_rfl) (fun _ _ _ h => h) (Or.inr ⟨by rfl, rfl⟩) (by assumption) ?restm223
      try simp only [Act.put, List.setIfInBounds_toArray, List.set_cons_zero, List.set_cons_succ]
      refine wpAnyH_take (i := 24) (oi := { dst := some 124, op := .move (.tmp 5), type := 3, pos := "lex.go:169", after := #[{ on := 19, ground := .guard }], guard := some (19, true) }) (v := undef) rfl (by kernel_rfl) (by kernel_rfl) (by kernel_rfl) (fun _ _ _ h => h) (Or.inr ⟨by rfl, rfl⟩) (by assumption) ?restm224
      try simp only [Act.put, List.setIfInBounds_toArray, List.set_cons_zero, List.set_cons_succ]
      refine wpAnyH_take (i := 25) (oi := { dst := some 125, op := .binOp .sub 3 (.tmp 124) (.const (.int .i64 1)) 3, type := 3, pos := "lex.go:169", after := #[{ on := 24, ground := .data }, { on := 19, ground := .guard }], guard := some (19, true) }) (v := undef) rfl (by kernel_rfl) (by kernel_rfl) (by kernel_rfl) (fun _ _ _ h => h) (Or.inr ⟨by rfl, rfl⟩) (by assumption) ?restm225
      try simp only [Act.put, List.setIfInBounds_toArray, List.set_cons_zero, List.set_cons_succ]
      refine wpAnyH_take (i := 26) (oi := { dst := some 126, op := .indexAddr 46 (.tmp 123) (.tmp 125), type := 0, pos := "lex.go:169", after := #[{ on := 23, ground := .data }, { on := 25, ground := .data }, { on := 19, ground := .guard }], guard := some (19, true) }) (v := undef) rfl (by kernel_rfl) (by kernel_rfl) (by kernel_rfl) (fun _ _ _ h => h) (Or.inr ⟨by rfl, rfl⟩) (by assumption) ?restm226
      try simp only [Act.put, List.setIfInBounds_toArray, List.set_cons_zero, List.set_cons_succ]
      refine wpAnyH_take (i := 27) (oi := { dst := some 127, op := .fieldAddr 60 (.tmp 126) 3, type := 0, pos := "lex.go:169", after := #[{ on := 26, ground := .data }, { on := 19, ground := .guard }], guard := some (19, true) }) (v := undef) rfl (by kernel_rfl) (by kernel_rfl) (by kernel_rfl) (fun _ _ _ h => h) (Or.inr ⟨by rfl, rfl⟩) (by assumption) ?restm227
      try simp only [Act.put, List.setIfInBounds_toArray, List.set_cons_zero, List.set_cons_succ]
      refine wpAnyH_take (i := 28) (oi := { dst := some 128, op := .load 3 (.tmp 127), type := 3, pos := "lex.go:169", after := #[{ on := 27, ground := .data }, { on := 19, ground := .guard }], guard := some (19, true) }) (v := undef) rfl (by kernel_rfl) (by kernel_rfl) (by kernel_rfl) (fun _ _ _ h => h) (Or.inr ⟨by rfl, rfl⟩) (by assumption) ?restm228
      try simp only [Act.put, List.setIfInBounds_toArray, List.set_cons_zero, List.set_cons_succ]
      refine wpAnyH_take (i := 29) (oi := { dst := some 129, op := .move (.tmp 0), type := 65, pos := "lex.go:169", after := #[{ on := 19, ground := .guard }], guard := some (19, true) }) (v := undef) rfl (by kernel_rfl) (by kernel_rfl) (by kernel_rfl) (fun _ _ _ h => h) (Or.inr ⟨by rfl, rfl⟩) (by assumption) ?restm229
      try simp only [Act.put, List.setIfInBounds_toArray, List.set_cons_zero, List.set_cons_succ]
      refine wpAnyH_take (i := 30) (oi := { dst := some 130, op := .nilCheck (.tmp 129), type := 0, pos := "lex.go:169", after := #[{ on := 29, ground := .data }, { on := 19, ground := .guard }], guard := some (19, true) }) (v := undef) rfl (by kernel_rfl) (by kernel_rfl) (by kernel_rfl) (fun _ _ _ h => h) (Or.inr ⟨by rfl, rfl⟩) (by assumption) ?restm230
      try simp only [Act.put, List.setIfInBounds_toArray, List.set_cons_zero, List.set_cons_succ]
      refine wpAnyH_take (i := 31) (oi := { dst := some 131, op := .fieldAddr 67 (.tmp 130) 1, type := 0, pos := "lex.go:169", after := #[{ on := 30, ground := .data }, { on := 19, ground := .guard }], guard := some (19, true) }) (v := undef) rfl (by kernel_rfl) (by kernel_rfl) (by kernel_rfl) (fun _ _ _ h => h) (Or.inr ⟨by rfl, rfl⟩) (by assumption) ?restm231
      try simp only [Act.put, List.setIfInBounds_toArray, List.set_cons_zero, List.set_cons_succ]
      refine wpAnyH_take (i := 32) (oi := { dst := some 132, op := .load 3 (.tmp 131), type := 3, pos := "lex.go:169", after := #[{ on := 31, ground := .data }, { on := 19, ground := .guard }], guard := some (19, true) }) (v := undef) rfl (by kernel_rfl) (by kernel_rfl) (by kernel_rfl) (fun _ _ _ h => h) (Or.inr ⟨by rfl, rfl⟩) (by assumption) ?restm232
      try simp only [Act.put, List.setIfInBounds_toArray, List.set_cons_zero, List.set_cons_succ]
      refine wpAnyH_take (i := 33) (oi := { dst := some 133, op := .binOp .eql 3 (.tmp 128) (.tmp 132) 3, type := 4, pos := "lex.go:169", after := #[{ on := 28, ground := .data }, { on := 32, ground := .data }, { on := 19, ground := .guard }], guard := some (19, true) }) (v := undef) rfl (by kernel_rfl) (by kernel_rfl) (by kernel_rfl) (fun _ _ _ h => h) (Or.inr ⟨by rfl, rfl⟩) (by assumption) ?restm233
      try simp only [Act.put, List.setIfInBounds_toArray, List.set_cons_zero, List.set_cons_succ]
      refine wpAnyH_take (i := 34) (oi := { dst := some 134, op := .pick (.tmp 119) (.tmp 133) (.const (.bool false)), type := 4, pos := "lex.go:169", after := #[{ on := 19, ground := .data }, { on := 33, ground := .data }], guard := none }) (v := ?vm234) rfl (by kernel_rfl) (by kernel_rfl) (by kernel_rfl) (fun _ _ _ h => h) (Or.inl ⟨by rfl, ?hym234⟩) (by assumption) ?restm234
      case hym234 => (intro w hSw; (try dsimp only at hSw); go_simp; try with_reducible rfl)
      try simp only [Act.put, List.setIfInBounds_toArray, List.set_cons_zero, List.set_cons_succ]
      refine wpAnyH_done (by kernel_rfl) ?_ _
      go_wp2_with fail
      go_meet
      case rel => exact ⟨5, tx, f + 1, (by first | exact R1.out | exact R1.out.drew | exact R1.out.drew.drew | exact R1.out.drew.drew.drew | exact R1.out.drew.drew.drew.drew | exact R1.out.drew.drew.drew.drew.drew), by rw [← HTX.out]; exact HONE⟩
     obtain ⟨m, hm⟩ : ∃ m, l.length = m + 1 := ⟨l.length - 1, by omega⟩
     obtain ⟨A', cp', he, _, _, _, hx2⟩ := own_open R2.out.own
     obtain ⟨g, cur, hA', hgX, hh, hcell⟩ := hx2 hn0
     injection he with he1 _ he3
     subst he1; subst he3
     subst hA'
     have hlm : m < l.length := by omega
     have hc0 : V.cell? ⟨g, m * 4, none⟩ = some (.int .i64 (l[m]'hlm).k) := by
      rw [Nat.mul_comm m 4, cell_of_row V g (4 * m) _ _ _ hh, hcell (4 * m) (by omega)]
      simpa [Tk.cells] using tkCells_at l m hlm 0 (by omega)
     have hc3 : V.cell? ⟨g, m * 4 + 3, none⟩ = some (.int .i64 ((l[m]'hlm).b : Int)) := by
      rw [Nat.mul_comm m 4, cell_of_row V g (4 * m + 3) _ _ _ hh, hcell (4 * m + 3) (by omega)]
      simpa [Tk.cells] using tkCells_at l m hlm 3 (by omega)
     have hgw := heap_lt hh
     have hwm2 : IntKind.i64.wrap (m : Int) = (m : Int) := by rw [IntKind.wrap_i64]; omega
     have hm0 : (0 : Int) ≤ (m : Int) := by omega
     have hng : (l.length : Int) > 0 := by omega
     have hsub : (l.length : Int) - 1 = (m : Int) := by omega
     have hmlt : (m : Int) < (l.length : Int) := by omega
     have hwm : IntKind.i64.wrap ((l.length : Int) - 1) = (m : Int) := by rw [IntKind.wrap_i64]; omega
     have HO := Lib.hid (show l.getLast? = some (l[m]'hlm) by rw [List.getLast?_eq_getElem?, hm]; exact List.getElem?_eq_getElem hlm)
     clear hm hh hcell hx2
     cases hk1 : ((l[m]'hlm).k == 1)
     case false =>
      have HOP := Lib.hid (show opens l.getLast? f = false by rw [HO.out]; show ((l[m]'hlm).k == 1 && (l[m]'hlm).b == f) = false; rw [hk1]; rfl)
      have HONE := Lib.hid (HEX.out 5 (by unfold headN; rw [h46, hsm, hgr, hdi, hsi, h33, h59, h39, hmk, h40, HOP.out]; rfl))
      refine wp_region_held_drew (S := fun w1 => w1.cell? ⟨T, 1, none⟩ = some (.string tx) ∧ w1.cell? ⟨X, 1, none⟩ = some (.int .i64 (f : Int)) ∧ w1.cell? ⟨X, 2, none⟩ = some (.slice (some ⟨g, 0, none⟩) l.length cp) ∧ w1.cell? ⟨g, m * 4, none⟩ = some (.int .i64 (l[m]'hlm).k) ∧ w1.cell? ⟨g, m * 4 + 3, none⟩ = some (.int .i64 ((l[m]'hlm).b : Int))) (by kernel_rfl) ?Sm3 (fun hH0 => ?Bm3)
      case Sm3 => (exact ⟨t1, y1, y2, hc0, hc3⟩)
      refine wpAnyH_take (i := 0) (oi := { dst := some 100, op := .fieldAddr 60 (.tmp 2) 1, type := 0, pos := "lex.go:169", after := #[], guard := none }) (v := ?vm30) rfl (by kernel_rfl) (by kernel_rfl) (by kernel_rfl) (fun _ _ _ h => h) (Or.inl ⟨by rfl, ?hym30⟩) (by assumption) ?restm30
      case hym30 => (intro w hSw; (try dsimp only at hSw); go_simp; try with_reducible rfl)
      try simp only [Act.put, List.setIfInBounds_toArray, List.set_cons_zero, List.set_cons_succ]
      refine wpAnyH_take (i := 1) (oi := { dst := some 101, op := .load 9 (.tmp 100), type := 9, pos := "lex.go:169", after := #[{ on := 0, ground := .data }], guard := none }) (v := ?vm31) rfl (by kernel_rfl) (by kernel_rfl) (by kernel_rfl) (fun _ _ _ h => h) (Or.inl ⟨by rfl, ?hym31⟩) (by assumption) ?restm31
      case hym31 => (intro w hSw; (try dsimp only at hSw); go_simp; try with_reducible rfl)
      try simp only [Act.put, List.setIfInBounds_toArray, List.set_cons_zero, List.set_cons_succ]
      refine wpAnyH_take (i := 2) (oi := { dst := some 102, op := .binOp .eql 9 (.tmp 101) (.const (.string { data := #[40] })) 9, type := 4, pos := "lex.go:169", after := #[{ on := 1, ground := .data }], guard := none }) (v := (Value.bool true)) rfl (by kernel_rfl) (by kernel_rfl) (by kernel_rfl) (fun _ _ _ h => h) (Or.inl ⟨by rfl, ?hym32⟩) (by assumption) ?restm32
      case hym32 => (intro w hSw; (try dsimp only at hSw); go_simp; try exact hbu)
      try simp only [Act.put, List.setIfInBounds_toArray, List.set_cons_zero, List.set_cons_succ]
      refine wpAnyH_take (i := 3) (oi := { dst := some 103, op := .move (.tmp 102), type := 4, pos := "lex.go:169", after := #[{ on := 2, ground := .data }], guard := none }) (v := ?vm33) rfl (by kernel_rfl) (by kernel_rfl) (by kernel_rfl) (fun _ _ _ h => h) (Or.inl ⟨by rfl, ?hym33⟩) (by assumption) ?restm33
      case hym33 => (intro w hSw; (try dsimp only at hSw); go_simp; try with_reducible rfl)
      try simp only [Act.put, List.setIfInBounds_toArray, List.set_cons_zero, List.set_cons_succ]
      refine wpAnyH_take (i := 4) (oi := { dst := some 104, op := .move (.tmp 5), type := 3, pos := "lex.go:169", after := #[{ on := 3, ground := .guard }], guard := some (3, true) }) (v := ?vm34) rfl (by kernel_rfl) (by kernel_rfl) (by kernel_rfl) (fun _ _ _ h => h) (Or.inl ⟨by rfl, ?hym34⟩) (by assumption) ?restm34
      case hym34 => (intro w hSw; (try dsimp only at hSw); go_simp; try with_reducible rfl)
      try simp only [Act.put, List.setIfInBounds_toArray, List.set_cons_zero, List.set_cons_succ]
      refine wpAnyH_take (i := 5) (oi := { dst := some 105, op := .binOp .gtr 3 (.tmp 104) (.const (.int .i64 0)) 3, type := 4, pos := "lex.go:169", after := #[{ on := 4, ground := .data }, { on := 3, ground := .guard }], guard := some (3, true) }) (v := ?vm35) rfl (by kernel_rfl) (by kernel_rfl) (by kernel_rfl) (fun _ _ _ h => h) (Or.inl ⟨by rfl, ?hym35⟩) (by assumption) ?restm35
      case hym35 => (intro w hSw; (try dsimp only at hSw); go_simp; try with_reducible rfl)
      try simp only [Act.put, List.setIfInBounds_toArray, List.set_cons_zero, List.set_cons_succ]
      refine wpAnyH_take (i := 6) (oi := { dst := some 106, op := .pick (.tmp 103) (.tmp 105) (.const (.bool false)), type := 4, pos := "lex.go:169", after := #[{ on := 3, ground := .data }, { on := 5, ground := .data }], guard := none }) (v := ?vm36) rfl (by kernel_rfl) (by kernel_rfl) (by kernel_rfl) (fun _ _ _ h => h) (Or.inl ⟨by rfl, ?hym36⟩) (by assumption) ?restm36
      case hym36 => (intro w hSw; (try dsimp only at hSw); go_simp; try with_reducible rfl)
      try simp only [Act.put, List.setIfInBounds_toArray, List.set_cons_zero, List.set_cons_succ]
      refine wpAnyH_take (i := 7) (oi := { dst := some 107, op := .move (.tmp 106), type := 4, pos := "lex.go:169", after := #[{ on := 6, ground := .data }, { on := 3, ground := .chain }], guard := none }) (v := ?vm37) rfl (by kernel_rfl) (by kernel_rfl) (by kernel_rfl) (fun _ _ _ h => h) (Or.inl ⟨by rfl, ?hym37⟩) (by assumption) ?restm37
      case hym37 => (intro w hSw; (try dsimp only at hSw); go_simp; try with_reducible rfl)
      try simp only [Act.put, List.setIfInBounds_toArray, List.set_cons_zero, List.set_cons_succ]
      refine wpAnyH_take (i := 8) (oi := { dst := some 108, op := .move (.tmp 0), type := 65, pos := "lex.go:169", after := #[{ on := 7, ground := .guard }], guard := some (7, true) }) (v := ?vm38) rfl (by kernel_rfl) (by kernel_rfl) (by kernel_rfl) (fun _ _ _ h => h) (Or.inl ⟨by rfl, ?hym38⟩) (by assumption) ?restm38
      case hym38 => (intro w hSw; (try dsimp only at hSw); go_simp; try with_reducible rfl)
      try simp only [Act.put, List.setIfInBounds_toArray, List.set_cons_zero, List.set_cons_succ]
      refine wpAnyH_take (i := 9) (oi := { dst := some 109, op := .nilCheck (.tmp 108), type := 0, pos := "lex.go:169", after := #[{ on := 8, ground := .data }, { on := 7, ground := .guard }], guard := some (7, true) }) (v := ?vm39) rfl (by kernel_rfl) (by kernel_rfl) (by kernel_rfl) (fun _ _ _ h => h) (Or.inl ⟨by rfl, ?hym39⟩) (by assumption) ?restm39
      case hym39 => (intro w hSw; (try dsimp only at hSw); go_simp; try with_reducible rfl)
      try simp only [Act.put, List.setIfInBounds_toArray, List.set_cons_zero, List.set_cons_succ]
      refine wpAnyH_take (i := 10) (oi := { dst := some 110, op := .fieldAddr 67 (.tmp 109) 2, type := 0, pos := "lex.go:169", after := #[{ on := 9, ground := .data }, { on := 7, ground := .guard }], guard := some (7, true) }) (v := ?vm310) rfl (by kernel_rfl) (by kernel_rfl) (by kernel_rfl) (fun _ _ _ h => h) (Or.inl ⟨by rfl, ?hym310⟩) (by assumption) ?restm310
      case hym310 => (intro w hSw; (try dsimp only at hSw); go_simp; try with_reducible rfl)
      try simp only [Act.put, List.setIfInBounds_toArray, List.set_cons_zero, List.set_cons_succ]
      refine wpAnyH_take (i := 11) (oi := { dst := some 111, op := .load 46 (.tmp 110), type := 46, pos := "lex.go:169", after := #[{ on := 10, ground := .data }, { on := 7, ground := .guard }], guard := some (7, true) }) (v := ?vm311) rfl (by kernel_rfl) (by kernel_rfl) (by kernel_rfl) (fun _ _ _ h => h) (Or.inl ⟨by rfl, ?hym311⟩) (by assumption) ?restm311
      case hym311 => (intro w hSw; (try dsimp only at hSw); go_simp; try with_reducible rfl)
      try simp only [Act.put, List.setIfInBounds_toArray, List.set_cons_zero, List.set_cons_succ]
      refine wpAnyH_take (i := 12) (oi := { dst := some 112, op := .move (.tmp 5), type := 3, pos := "lex.go:169", after := #[{ on := 7, ground := .guard }], guard := some (7, true) }) (v := ?vm312) rfl (by kernel_rfl) (by kernel_rfl) (by kernel_rfl) (fun _ _ _ h => h) (Or.inl ⟨by rfl, ?hym312⟩) (by assumption) ?restm312
      case hym312 => (intro w hSw; (try dsimp only at hSw); go_simp; try with_reducible rfl)
      try simp only [Act.put, List.setIfInBounds_toArray, List.set_cons_zero, List.set_cons_succ]
      refine wpAnyH_take (i := 13) (oi := { dst := some 113, op := .binOp .sub 3 (.tmp 112) (.const (.int .i64 1)) 3, type := 3, pos := "lex.go:169", after := #[{ on := 12, ground := .data }, { on := 7, ground := .guard }], guard := some (7, true) }) (v := ?vm313) rfl (by kernel_rfl) (by kernel_rfl) (by kernel_rfl) (fun _ _ _ h => h) (Or.inl ⟨by rfl, ?hym313⟩) (by assumption) ?restm313
      case hym313 => (intro w hSw; (try dsimp only at hSw); go_simp; try with_reducible rfl)
      try simp only [Act.put, List.setIfInBounds_toArray, List.set_cons_zero, List.set_cons_succ]
      refine wpAnyH_take (i := 14) (oi := { dst := some 114, op := .indexAddr 46 (.tmp 111) (.tmp 113), type := 0, pos := "lex.go:169", after := #[{ on := 11, ground := .data }, { on := 13, ground := .data }, { on := 7, ground := .guard }], guard := some (7, true) }) (v := ?vm314) rfl (by kernel_rfl) (by kernel_rfl) (by kernel_rfl) (fun _ _ _ h => h) (Or.inl ⟨by rfl, ?hym314⟩) (by assumption) ?restm314
      case hym314 => (intro w hSw; (try dsimp only at hSw); go_simp; try with_reducible rfl)
      try simp only [Act.put, List.setIfInBounds_toArray, List.set_cons_zero, List.set_cons_succ]
      refine wpAnyH_take (i := 15) (oi := { dst := some 115, op := .fieldAddr 60 (.tmp 114) 0, type := 0, pos := "lex.go:169", after := #[{ on := 14, ground := .data }, { on := 7, ground := .guard }], guard := some (7, true) }) (v := ?vm315) rfl (by kernel_rfl) (by kernel_rfl) (by kernel_rfl) (fun _ _ _ h => h) (Or.inl ⟨by rfl, ?hym315⟩) (by assumption) ?restm315
      case hym315 => (intro w hSw; (try dsimp only at hSw); go_simp; try with_reducible rfl)
      try simp only [Act.put, List.setIfInBounds_toArray, List.set_cons_zero, List.set_cons_succ]
      refine wpAnyH_take (i := 16) (oi := { dst := some 116, op := .load 3 (.tmp 115), type := 3, pos := "lex.go:169", after := #[{ on := 15, ground := .data }, { on := 7, ground := .guard }], guard := some (7, true) }) (v := ?vm316) rfl (by kernel_rfl) (by kernel_rfl) (by kernel_rfl) (fun _ _ _ h => h) (Or.inl ⟨by rfl, ?hym316⟩) (by assumption) ?restm316
      case hym316 => (intro w hSw; (try dsimp only at hSw); go_simp; try with_reducible rfl)
      try simp only [Act.put, List.setIfInBounds_toArray, List.set_cons_zero, List.set_cons_succ]
      refine wpAnyH_take (i := 17) (oi := { dst := some 117, op := .binOp .eql 3 (.tmp 116) (.const (.int .i64 1)) 3, type := 4, pos := "lex.go:169", after := #[{ on := 16, ground := .data }, { on := 7, ground := .guard }], guard := some (7, true) }) (v := ?vm317) rfl (by kernel_rfl) (by kernel_rfl) (by kernel_rfl) (fun _ _ _ h => h) (Or.inl ⟨by rfl, ?hym317⟩) (by assumption) ?restm317
      case hym317 => (intro w hSw; (try dsimp only at hSw); go_simp; try with_reducible rfl)
      try simp only [Act.put, List.setIfInBounds_toArray, List.set_cons_zero, List.set_cons_succ]
      refine wpAnyH_take (i := 18) (oi := { dst := some 118, op := .pick (.tmp 107) (.tmp 117) (.const (.bool false)), type := 4, pos := "lex.go:169", after := #[{ on := 7, ground := .data }, { on := 17, ground := .data }], guard := none }) (v := ?vm318) rfl (by kernel_rfl) (by kernel_rfl) (by kernel_rfl) (fun _ _ _ h => h) (Or.inl ⟨by rfl, ?hym318⟩) (by assumption) ?restm318
      case hym318 => (intro w hSw; (try dsimp only at hSw); go_simp; try with_reducible rfl)
      try simp only [Act.put, List.setIfInBounds_toArray, List.set_cons_zero, List.set_cons_succ]
      refine wpAnyH_take (i := 19) (oi := { dst := some 119, op := .move (.tmp 118), type := 4, pos := "lex.go:169", after := #[{ on := 18, ground := .data }, { on := 7, ground := .chain }], guard := none }) (v := ?vm319) rfl (by kernel_rfl) (by kernel_rfl) (by kernel_rfl) (fun _ _ _ h => h) (Or.inl ⟨by rfl, ?hym319⟩) (by assumption) ?restm319
      case hym319 => (intro w hSw; (try dsimp only at hSw); go_simp; try with_reducible rfl)
      try simp only [Act.put, List.setIfInBounds_toArray, List.set_cons_zero, List.set_cons_succ]
      refine wpAnyH_take (i := 20) (oi := { dst := some 120, op := .move (.tmp 0), type := 65, pos := "lex.go:169", after := #[{ on := 19, ground := .guard }], guard := some (19, true) }) (v := undef) rfl (by kernel_rfl) (by kernel_rfl) (by kernel_rfl) (fun _ _ _ h => h) (Or.inr ⟨by rfl, rfl⟩) (by assumption) ?restm320
      try simp only [Act.put, List.setIfInBounds_toArray, List.set_cons_zero, List.set_cons_succ]
      refine wpAnyH_take (i := 21) (oi := { dst := some 121, op := .nilCheck (.tmp 120), type := 0, pos := "lex.go:169", after := #[{ on := 20, ground := .data }, { on := 19, ground := .guard }], guard := some (19, true) }) (v := undef) rfl (by kernel_rfl) (by kernel_rfl) (by kernel_rfl) (fun _ _ _ h => h) (Or.inr ⟨by rfl, rfl⟩) (by assumption) ?restm321
      try simp only [Act.put, List.setIfInBounds_toArray, List.set_cons_zero, List.set_cons_succ]
      refine wpAnyH_take (i := 22) (oi := { dst := some 122, op := .fieldAddr 67 (.tmp 121) 2, type := 0, pos := "lex.go:169", after := #[{ on := 21, ground := .data }, { on := 19, ground := .guard }], guard := some (19, true) }) (v := undef) rfl (by kernel_rfl) (by kernel_rfl) (by kernel_rfl) (fun _ _ _ h => h) (Or.inr ⟨by rfl, rfl⟩) (by assumption) ?restm322
      try simp only [Act.put, List.setIfInBounds_toArray, List.set_cons_zero, List.set_cons_succ]
      refine wpAnyH_take (i := 23) (oi := { dst := some 123, op := .load 46 (.tmp 122), type := 46, pos := "lex.go:169", after := #[{ on := 22, ground := .data }, { on := 19, ground := .guard }], guard := some (19, true) }) (v := undef) rfl (by kernel_rfl) (by kernel_rfl) (by kernel_rfl) (fun _ _ _ h => h) (Or.inr ⟨by rfl, rfl⟩) (by assumption) ?restm323
      try simp only [Act.put, List.setIfInBounds_toArray, List.set_cons_zero, List.set_cons_succ]
      refine wpAnyH_take (i := 24) (oi := { dst := some 124, op := .move (.tmp 5), type := 3, pos := "lex.go:169", after := #[{ on := 19, ground := .guard }], guard := some (19, true) }) (v := undef) rfl (by kernel_rfl) (by kernel_rfl) (by kernel_rfl) (fun _ _ _ h => h) (Or.inr ⟨by rfl, rfl⟩) (by assumption) ?restm324
      try simp only [Act.put, List.setIfInBounds_toArray, List.set_cons_zero, List.set_cons_succ]
      refine wpAnyH_take (i := 25) (oi := { dst := some 125, op := .binOp .sub 3 (.tmp 124) (.const (.int .i64 1)) 3, type := 3, pos := "lex.go:169", after := #[{ on := 24, ground := .data }, { on := 19, ground := .guard }], guard := some (19, true) }) (v := undef) rfl (by kernel_rfl) (by kernel_rfl) (by kernel_rfl) (fun _ _ _ h => h) (Or.inr ⟨by rfl, rfl⟩) (by assumption) ?restm325
      try simp only [Act.put, List.setIfInBounds_toArray, List.set_cons_zero, List.set_cons_succ]
      refine wpAnyH_take (i := 26) (oi := { dst := some 126, op := .indexAddr 46 (.tmp 123) (.tmp 125), type := 0, pos := "lex.go:169", after := #[{ on := 23, ground := .data }, { on := 25, ground := .data }, { on := 19, ground := .guard }], guard := some (19, true) }) (v := undef) rfl (by kernel_rfl) (by kernel_rfl) (by kernel_rfl) (fun _ _ _ h => h) (Or.inr ⟨by rfl, rfl⟩) (by assumption) ?restm326
      try simp only [Act.put, List.setIfInBounds_toArray, List.set_cons_zero, List.set_cons_succ]
      refine wpAnyH_take (i := 27) (oi := { dst := some 127, op := .fieldAddr 60 (.tmp 126) 3, type := 0, pos := "lex.go:169", after := #[{ on := 26, ground := .data }, { on := 19, ground := .guard }], guard := some (19, true) }) (v := undef) rfl (by kernel_rfl) (by kernel_rfl) (by kernel_rfl) (fun _ _ _ h => h) (Or.inr ⟨by rfl, rfl⟩) (by assumption) ?restm327
      try simp only [Act.put, List.setIfInBounds_toArray, List.set_cons_zero, List.set_cons_succ]
      refine wpAnyH_take (i := 28) (oi := { dst := some 128, op := .load 3 (.tmp 127), type := 3, pos := "lex.go:169", after := #[{ on := 27, ground := .data }, { on := 19, ground := .guard }], guard := some (19, true) }) (v := undef) rfl (by kernel_rfl) (by kernel_rfl) (by kernel_rfl) (fun _ _ _ h => h) (Or.inr ⟨by rfl, rfl⟩) (by assumption) ?restm328
      try simp only [Act.put, List.setIfInBounds_toArray, List.set_cons_zero, List.set_cons_succ]
      refine wpAnyH_take (i := 29) (oi := { dst := some 129, op := .move (.tmp 0), type := 65, pos := "lex.go:169", after := #[{ on := 19, ground := .guard }], guard := some (19, true) }) (v := undef) rfl (by kernel_rfl) (by kernel_rfl) (by kernel_rfl) (fun _ _ _ h => h) (Or.inr ⟨by rfl, rfl⟩) (by assumption) ?restm329
      try simp only [Act.put, List.setIfInBounds_toArray, List.set_cons_zero, List.set_cons_succ]
      refine wpAnyH_take (i := 30) (oi := { dst := some 130, op := .nilCheck (.tmp 129), type := 0, pos := "lex.go:169", after := #[{ on := 29, ground := .data }, { on := 19, ground := .guard }], guard := some (19, true) }) (v := undef) rfl (by kernel_rfl) (by kernel_rfl) (by kernel_rfl) (fun _ _ _ h => h) (Or.inr ⟨by rfl, rfl⟩) (by assumption) ?restm330
      try simp only [Act.put, List.setIfInBounds_toArray, List.set_cons_zero, List.set_cons_succ]
      refine wpAnyH_take (i := 31) (oi := { dst := some 131, op := .fieldAddr 67 (.tmp 130) 1, type := 0, pos := "lex.go:169", after := #[{ on := 30, ground := .data }, { on := 19, ground := .guard }], guard := some (19, true) }) (v := undef) rfl (by kernel_rfl) (by kernel_rfl) (by kernel_rfl) (fun _ _ _ h => h) (Or.inr ⟨by rfl, rfl⟩) (by assumption) ?restm331
      try simp only [Act.put, List.setIfInBounds_toArray, List.set_cons_zero, List.set_cons_succ]
      refine wpAnyH_take (i := 32) (oi := { dst := some 132, op := .load 3 (.tmp 131), type := 3, pos := "lex.go:169", after := #[{ on := 31, ground := .data }, { on := 19, ground := .guard }], guard := some (19, true) }) (v := undef) rfl (by kernel_rfl) (by kernel_rfl) (by kernel_rfl) (fun _ _ _ h => h) (Or.inr ⟨by rfl, rfl⟩) (by assumption) ?restm332
      try simp only [Act.put, List.setIfInBounds_toArray, List.set_cons_zero, List.set_cons_succ]
      refine wpAnyH_take (i := 33) (oi := { dst := some 133, op := .binOp .eql 3 (.tmp 128) (.tmp 132) 3, type := 4, pos := "lex.go:169", after := #[{ on := 28, ground := .data }, { on := 32, ground := .data }, { on := 19, ground := .guard }], guard := some (19, true) }) (v := undef) rfl (by kernel_rfl) (by kernel_rfl) (by kernel_rfl) (fun _ _ _ h => h) (Or.inr ⟨by rfl, rfl⟩) (by assumption) ?restm333
      try simp only [Act.put, List.setIfInBounds_toArray, List.set_cons_zero, List.set_cons_succ]
      refine wpAnyH_take (i := 34) (oi := { dst := some 134, op := .pick (.tmp 119) (.tmp 133) (.const (.bool false)), type := 4, pos := "lex.go:169", after := #[{ on := 19, ground := .data }, { on := 33, ground := .data }], guard := none }) (v := ?vm334) rfl (by kernel_rfl) (by kernel_rfl) (by kernel_rfl) (fun _ _ _ h => h) (Or.inl ⟨by rfl, ?hym334⟩) (by assumption) ?restm334
      case hym334 => (intro w hSw; (try dsimp only at hSw); go_simp; try with_reducible rfl)
      try simp only [Act.put, List.setIfInBounds_toArray, List.set_cons_zero, List.set_cons_succ]
      refine wpAnyH_done (by kernel_rfl) ?_ _
      go_wp2_with fail
      go_meet
      case rel => exact ⟨5, tx, f + 1, (by first | exact R1.out | exact R1.out.drew | exact R1.out.drew.drew | exact R1.out.drew.drew.drew | exact R1.out.drew.drew.drew.drew | exact R1.out.drew.drew.drew.drew.drew), by rw [← HTX.out]; exact HONE⟩
     by_cases hbf : (l[m]'hlm).b = f
     ·have hbf' : (((l[m]'hlm).b : Int) == (f : Int)) = true := by rw [hbf, beq_self_eq_true]
      have HOP := Lib.hid (show opens l.getLast? f = true by rw [HO.out]; show ((l[m]'hlm).k == 1 && (l[m]'hlm).b == f) = true; rw [hk1, hbf, beq_self_eq_true]; rfl)
      clear hbf
      have r1 := (R2.out.k 4).at_ (f + 1)
      rw [hcast] at r1
      have R1 := Lib.hid r1
      clear r1
      have HONE := Lib.hid (HEX.out 4 (by unfold headN; rw [h46, hsm, hgr, hdi, hsi, h33, h59, h39, hmk, h40, HOP.out]; rfl))
      refine wp_region_held_drew (S := fun w1 => w1.cell? ⟨T, 1, none⟩ = some (.string tx) ∧ w1.cell? ⟨X, 1, none⟩ = some (.int .i64 (f : Int)) ∧ w1.cell? ⟨X, 2, none⟩ = some (.slice (some ⟨g, 0, none⟩) l.length cp) ∧ w1.cell? ⟨g, m * 4, none⟩ = some (.int .i64 (l[m]'hlm).k) ∧ w1.cell? ⟨g, m * 4 + 3, none⟩ = some (.int .i64 ((l[m]'hlm).b : Int))) (by kernel_rfl) ?Sm4 (fun hH0 => ?Bm4)
      case Sm4 => (exact ⟨t1, y1, y2, hc0, hc3⟩)
      refine wpAnyH_take (i := 0) (oi := { dst := some 100, op := .fieldAddr 60 (.tmp 2) 1, type := 0, pos := "lex.go:169", after := #[], guard := none }) (v := ?vm40) rfl (by kernel_rfl) (by kernel_rfl) (by kernel_rfl) (fun _ _ _ h => h) (Or.inl ⟨by rfl, ?hym40⟩) (by assumption) ?restm40
      case hym40 => (intro w hSw; (try dsimp only at hSw); go_simp; try with_reducible rfl)
      try simp only [Act.put, List.setIfInBounds_toArray, List.set_cons_zero, List.set_cons_succ]
      refine wpAnyH_take (i := 1) (oi := { dst := some 101, op := .load 9 (.tmp 100), type := 9, pos := "lex.go:169", after := #[{ on := 0, ground := .data }], guard := none }) (v := ?vm41) rfl (by kernel_rfl) (by kernel_rfl) (by kernel_rfl) (fun _ _ _ h => h) (Or.inl ⟨by rfl, ?hym41⟩) (by assumption) ?restm41
      case hym41 => (intro w hSw; (try dsimp only at hSw); go_simp; try with_reducible rfl)
      try simp only [Act.put, List.setIfInBounds_toArray, List.set_cons_zero, List.set_cons_succ]
      refine wpAnyH_take (i := 2) (oi := { dst := some 102, op := .binOp .eql 9 (.tmp 101) (.const (.string { data := #[40] })) 9, type := 4, pos := "lex.go:169", after := #[{ on := 1, ground := .data }], guard := none }) (v := (Value.bool true)) rfl (by kernel_rfl) (by kernel_rfl) (by kernel_rfl) (fun _ _ _ h => h) (Or.inl ⟨by rfl, ?hym42⟩) (by assumption) ?restm42
      case hym42 => (intro w hSw; (try dsimp only at hSw); go_simp; try exact hbu)
      try simp only [Act.put, List.setIfInBounds_toArray, List.set_cons_zero, List.set_cons_succ]
      refine wpAnyH_take (i := 3) (oi := { dst := some 103, op := .move (.tmp 102), type := 4, pos := "lex.go:169", after := #[{ on := 2, ground := .data }], guard := none }) (v := ?vm43) rfl (by kernel_rfl) (by kernel_rfl) (by kernel_rfl) (fun _ _ _ h => h) (Or.inl ⟨by rfl, ?hym43⟩) (by assumption) ?restm43
      case hym43 => (intro w hSw; (try dsimp only at hSw); go_simp; try with_reducible rfl)
      try simp only [Act.put, List.setIfInBounds_toArray, List.set_cons_zero, List.set_cons_succ]
      refine wpAnyH_take (i := 4) (oi := { dst := some 104, op := .move (.tmp 5), type := 3, pos := "lex.go:169", after := #[{ on := 3, ground := .guard }], guard := some (3, true) }) (v := ?vm44) rfl (by kernel_rfl) (by kernel_rfl) (by kernel_rfl) (fun _ _ _ h => h) (Or.inl ⟨by rfl, ?hym44⟩) (by assumption) ?restm44
      case hym44 => (intro w hSw; (try dsimp only at hSw); go_simp; try with_reducible rfl)
      try simp only [Act.put, List.setIfInBounds_toArray, List.set_cons_zero, List.set_cons_succ]
      refine wpAnyH_take (i := 5) (oi := { dst := some 105, op := .binOp .gtr 3 (.tmp 104) (.const (.int .i64 0)) 3, type := 4, pos := "lex.go:169", after := #[{ on := 4, ground := .data }, { on := 3, ground := .guard }], guard := some (3, true) }) (v := ?vm45) rfl (by kernel_rfl) (by kernel_rfl) (by kernel_rfl) (fun _ _ _ h => h) (Or.inl ⟨by rfl, ?hym45⟩) (by assumption) ?restm45
      case hym45 => (intro w hSw; (try dsimp only at hSw); go_simp; try with_reducible rfl)
      try simp only [Act.put, List.setIfInBounds_toArray, List.set_cons_zero, List.set_cons_succ]
      refine wpAnyH_take (i := 6) (oi := { dst := some 106, op := .pick (.tmp 103) (.tmp 105) (.const (.bool false)), type := 4, pos := "lex.go:169", after := #[{ on := 3, ground := .data }, { on := 5, ground := .data }], guard := none }) (v := ?vm46) rfl (by kernel_rfl) (by kernel_rfl) (by kernel_rfl) (fun _ _ _ h => h) (Or.inl ⟨by rfl, ?hym46⟩) (by assumption) ?restm46
      case hym46 => (intro w hSw; (try dsimp only at hSw); go_simp; try with_reducible rfl)
      try simp only [Act.put, List.setIfInBounds_toArray, List.set_cons_zero, List.set_cons_succ]
      refine wpAnyH_take (i := 7) (oi := { dst := some 107, op := .move (.tmp 106), type := 4, pos := "lex.go:169", after := #[{ on := 6, ground := .data }, { on := 3, ground := .chain }], guard := none }) (v := ?vm47) rfl (by kernel_rfl) (by kernel_rfl) (by kernel_rfl) (fun _ _ _ h => h) (Or.inl ⟨by rfl, ?hym47⟩) (by assumption) ?restm47
      case hym47 => (intro w hSw; (try dsimp only at hSw); go_simp; try with_reducible rfl)
      try simp only [Act.put, List.setIfInBounds_toArray, List.set_cons_zero, List.set_cons_succ]
      refine wpAnyH_take (i := 8) (oi := { dst := some 108, op := .move (.tmp 0), type := 65, pos := "lex.go:169", after := #[{ on := 7, ground := .guard }], guard := some (7, true) }) (v := ?vm48) rfl (by kernel_rfl) (by kernel_rfl) (by kernel_rfl) (fun _ _ _ h => h) (Or.inl ⟨by rfl, ?hym48⟩) (by assumption) ?restm48
      case hym48 => (intro w hSw; (try dsimp only at hSw); go_simp; try with_reducible rfl)
      try simp only [Act.put, List.setIfInBounds_toArray, List.set_cons_zero, List.set_cons_succ]
      refine wpAnyH_take (i := 9) (oi := { dst := some 109, op := .nilCheck (.tmp 108), type := 0, pos := "lex.go:169", after := #[{ on := 8, ground := .data }, { on := 7, ground := .guard }], guard := some (7, true) }) (v := ?vm49) rfl (by kernel_rfl) (by kernel_rfl) (by kernel_rfl) (fun _ _ _ h => h) (Or.inl ⟨by rfl, ?hym49⟩) (by assumption) ?restm49
      case hym49 => (intro w hSw; (try dsimp only at hSw); go_simp; try with_reducible rfl)
      try simp only [Act.put, List.setIfInBounds_toArray, List.set_cons_zero, List.set_cons_succ]
      refine wpAnyH_take (i := 10) (oi := { dst := some 110, op := .fieldAddr 67 (.tmp 109) 2, type := 0, pos := "lex.go:169", after := #[{ on := 9, ground := .data }, { on := 7, ground := .guard }], guard := some (7, true) }) (v := ?vm410) rfl (by kernel_rfl) (by kernel_rfl) (by kernel_rfl) (fun _ _ _ h => h) (Or.inl ⟨by rfl, ?hym410⟩) (by assumption) ?restm410
      case hym410 => (intro w hSw; (try dsimp only at hSw); go_simp; try with_reducible rfl)
      try simp only [Act.put, List.setIfInBounds_toArray, List.set_cons_zero, List.set_cons_succ]
      refine wpAnyH_take (i := 11) (oi := { dst := some 111, op := .load 46 (.tmp 110), type := 46, pos := "lex.go:169", after := #[{ on := 10, ground := .data }, { on := 7, ground := .guard }], guard := some (7, true) }) (v := ?vm411) rfl (by kernel_rfl) (by kernel_rfl) (by kernel_rfl) (fun _ _ _ h => h) (Or.inl ⟨by rfl, ?hym411⟩) (by assumption) ?restm411
      case hym411 => (intro w hSw; (try dsimp only at hSw); go_simp; try with_reducible rfl)
      try simp only [Act.put, List.setIfInBounds_toArray, List.set_cons_zero, List.set_cons_succ]
      refine wpAnyH_take (i := 12) (oi := { dst := some 112, op := .move (.tmp 5), type := 3, pos := "lex.go:169", after := #[{ on := 7, ground := .guard }], guard := some (7, true) }) (v := ?vm412) rfl (by kernel_rfl) (by kernel_rfl) (by kernel_rfl) (fun _ _ _ h => h) (Or.inl ⟨by rfl, ?hym412⟩) (by assumption) ?restm412
      case hym412 => (intro w hSw; (try dsimp only at hSw); go_simp; try with_reducible rfl)
      try simp only [Act.put, List.setIfInBounds_toArray, List.set_cons_zero, List.set_cons_succ]
      refine wpAnyH_take (i := 13) (oi := { dst := some 113, op := .binOp .sub 3 (.tmp 112) (.const (.int .i64 1)) 3, type := 3, pos := "lex.go:169", after := #[{ on := 12, ground := .data }, { on := 7, ground := .guard }], guard := some (7, true) }) (v := ?vm413) rfl (by kernel_rfl) (by kernel_rfl) (by kernel_rfl) (fun _ _ _ h => h) (Or.inl ⟨by rfl, ?hym413⟩) (by assumption) ?restm413
      case hym413 => (intro w hSw; (try dsimp only at hSw); go_simp; try with_reducible rfl)
      try simp only [Act.put, List.setIfInBounds_toArray, List.set_cons_zero, List.set_cons_succ]
      refine wpAnyH_take (i := 14) (oi := { dst := some 114, op := .indexAddr 46 (.tmp 111) (.tmp 113), type := 0, pos := "lex.go:169", after := #[{ on := 11, ground := .data }, { on := 13, ground := .data }, { on := 7, ground := .guard }], guard := some (7, true) }) (v := ?vm414) rfl (by kernel_rfl) (by kernel_rfl) (by kernel_rfl) (fun _ _ _ h => h) (Or.inl ⟨by rfl, ?hym414⟩) (by assumption) ?restm414
      case hym414 => (intro w hSw; (try dsimp only at hSw); go_simp; try with_reducible rfl)
      try simp only [Act.put, List.setIfInBounds_toArray, List.set_cons_zero, List.set_cons_succ]
      refine wpAnyH_take (i := 15) (oi := { dst := some 115, op := .fieldAddr 60 (.tmp 114) 0, type := 0, pos := "lex.go:169", after := #[{ on := 14, ground := .data }, { on := 7, ground := .guard }], guard := some (7, true) }) (v := ?vm415) rfl (by kernel_rfl) (by kernel_rfl) (by kernel_rfl) (fun _ _ _ h => h) (Or.inl ⟨by rfl, ?hym415⟩) (by assumption) ?restm415
      case hym415 => (intro w hSw; (try dsimp only at hSw); go_simp; try with_reducible rfl)
      try simp only [Act.put, List.setIfInBounds_toArray, List.set_cons_zero, List.set_cons_succ]
      refine wpAnyH_take (i := 16) (oi := { dst := some 116, op := .load 3 (.tmp 115), type := 3, pos := "lex.go:169", after := #[{ on := 15, ground := .data }, { on := 7, ground := .guard }], guard := some (7, true) }) (v := ?vm416) rfl (by kernel_rfl) (by kernel_rfl) (by kernel_rfl) (fun _ _ _ h => h) (Or.inl ⟨by rfl, ?hym416⟩) (by assumption) ?restm416
      case hym416 => (intro w hSw; (try dsimp only at hSw); go_simp; try with_reducible rfl)
      try simp only [Act.put, List.setIfInBounds_toArray, List.set_cons_zero, List.set_cons_succ]
      refine wpAnyH_take (i := 17) (oi := { dst := some 117, op := .binOp .eql 3 (.tmp 116) (.const (.int .i64 1)) 3, type := 4, pos := "lex.go:169", after := #[{ on := 16, ground := .data }, { on := 7, ground := .guard }], guard := some (7, true) }) (v := ?vm417) rfl (by kernel_rfl) (by kernel_rfl) (by kernel_rfl) (fun _ _ _ h => h) (Or.inl ⟨by rfl, ?hym417⟩) (by assumption) ?restm417
      case hym417 => (intro w hSw; (try dsimp only at hSw); go_simp; try with_reducible rfl)
      try simp only [Act.put, List.setIfInBounds_toArray, List.set_cons_zero, List.set_cons_succ]
      refine wpAnyH_take (i := 18) (oi := { dst := some 118, op := .pick (.tmp 107) (.tmp 117) (.const (.bool false)), type := 4, pos := "lex.go:169", after := #[{ on := 7, ground := .data }, { on := 17, ground := .data }], guard := none }) (v := ?vm418) rfl (by kernel_rfl) (by kernel_rfl) (by kernel_rfl) (fun _ _ _ h => h) (Or.inl ⟨by rfl, ?hym418⟩) (by assumption) ?restm418
      case hym418 => (intro w hSw; (try dsimp only at hSw); go_simp; try with_reducible rfl)
      try simp only [Act.put, List.setIfInBounds_toArray, List.set_cons_zero, List.set_cons_succ]
      refine wpAnyH_take (i := 19) (oi := { dst := some 119, op := .move (.tmp 118), type := 4, pos := "lex.go:169", after := #[{ on := 18, ground := .data }, { on := 7, ground := .chain }], guard := none }) (v := ?vm419) rfl (by kernel_rfl) (by kernel_rfl) (by kernel_rfl) (fun _ _ _ h => h) (Or.inl ⟨by rfl, ?hym419⟩) (by assumption) ?restm419
      case hym419 => (intro w hSw; (try dsimp only at hSw); go_simp; try with_reducible rfl)
      try simp only [Act.put, List.setIfInBounds_toArray, List.set_cons_zero, List.set_cons_succ]
      refine wpAnyH_take (i := 20) (oi := { dst := some 120, op := .move (.tmp 0), type := 65, pos := "lex.go:169", after := #[{ on := 19, ground := .guard }], guard := some (19, true) }) (v := ?vm420) rfl (by kernel_rfl) (by kernel_rfl) (by kernel_rfl) (fun _ _ _ h => h) (Or.inl ⟨by rfl, ?hym420⟩) (by assumption) ?restm420
      case hym420 => (intro w hSw; (try dsimp only at hSw); go_simp; try with_reducible rfl)
      try simp only [Act.put, List.setIfInBounds_toArray, List.set_cons_zero, List.set_cons_succ]
      refine wpAnyH_take (i := 21) (oi := { dst := some 121, op := .nilCheck (.tmp 120), type := 0, pos := "lex.go:169", after := #[{ on := 20, ground := .data }, { on := 19, ground := .guard }], guard := some (19, true) }) (v := ?vm421) rfl (by kernel_rfl) (by kernel_rfl) (by kernel_rfl) (fun _ _ _ h => h) (Or.inl ⟨by rfl, ?hym421⟩) (by assumption) ?restm421
      case hym421 => (intro w hSw; (try dsimp only at hSw); go_simp; try with_reducible rfl)
      try simp only [Act.put, List.setIfInBounds_toArray, List.set_cons_zero, List.set_cons_succ]
      refine wpAnyH_take (i := 22) (oi := { dst := some 122, op := .fieldAddr 67 (.tmp 121) 2, type := 0, pos := "lex.go:169", after := #[{ on := 21, ground := .data }, { on := 19, ground := .guard }], guard := some (19, true) }) (v := ?vm422) rfl (by kernel_rfl) (by kernel_rfl) (by kernel_rfl) (fun _ _ _ h => h) (Or.inl ⟨by rfl, ?hym422⟩) (by assumption) ?restm422
      case hym422 => (intro w hSw; (try dsimp only at hSw); go_simp; try with_reducible rfl)
      try simp only [Act.put, List.setIfInBounds_toArray, List.set_cons_zero, List.set_cons_succ]
      refine wpAnyH_take (i := 23) (oi := { dst := some 123, op := .load 46 (.tmp 122), type := 46, pos := "lex.go:169", after := #[{ on := 22, ground := .data }, { on := 19, ground := .guard }], guard := some (19, true) }) (v := ?vm423) rfl (by kernel_rfl) (by kernel_rfl) (by kernel_rfl) (fun _ _ _ h => h) (Or.inl ⟨by rfl, ?hym423⟩) (by assumption) ?restm423
      case hym423 => (intro w hSw; (try dsimp only at hSw); go_simp; try with_reducible rfl)
      try simp only [Act.put, List.setIfInBounds_toArray, List.set_cons_zero, List.set_cons_succ]
      refine wpAnyH_take (i := 24) (oi := { dst := some 124, op := .move (.tmp 5), type := 3, pos := "lex.go:169", after := #[{ on := 19, ground := .guard }], guard := some (19, true) }) (v := ?vm424) rfl (by kernel_rfl) (by kernel_rfl) (by kernel_rfl) (fun _ _ _ h => h) (Or.inl ⟨by rfl, ?hym424⟩) (by assumption) ?restm424
      case hym424 => (intro w hSw; (try dsimp only at hSw); go_simp; try with_reducible rfl)
      try simp only [Act.put, List.setIfInBounds_toArray, List.set_cons_zero, List.set_cons_succ]
      refine wpAnyH_take (i := 25) (oi := { dst := some 125, op := .binOp .sub 3 (.tmp 124) (.const (.int .i64 1)) 3, type := 3, pos := "lex.go:169", after := #[{ on := 24, ground := .data }, { on := 19, ground := .guard }], guard := some (19, true) }) (v := ?vm425) rfl (by kernel_rfl) (by kernel_rfl) (by kernel_rfl) (fun _ _ _ h => h) (Or.inl ⟨by rfl, ?hym425⟩) (by assumption) ?restm425
      case hym425 => (intro w hSw; (try dsimp only at hSw); go_simp; try with_reducible rfl)
      try simp only [Act.put, List.setIfInBounds_toArray, List.set_cons_zero, List.set_cons_succ]
      refine wpAnyH_take (i := 26) (oi := { dst := some 126, op := .indexAddr 46 (.tmp 123) (.tmp 125), type := 0, pos := "lex.go:169", after := #[{ on := 23, ground := .data }, { on := 25, ground := .data }, { on := 19, ground := .guard }], guard := some (19, true) }) (v := ?vm426) rfl (by kernel_rfl) (by kernel_rfl) (by kernel_rfl) (fun _ _ _ h => h) (Or.inl ⟨by rfl, ?hym426⟩) (by assumption) ?restm426
      case hym426 => (intro w hSw; (try dsimp only at hSw); go_simp; try with_reducible rfl)
      try simp only [Act.put, List.setIfInBounds_toArray, List.set_cons_zero, List.set_cons_succ]
      refine wpAnyH_take (i := 27) (oi := { dst := some 127, op := .fieldAddr 60 (.tmp 126) 3, type := 0, pos := "lex.go:169", after := #[{ on := 26, ground := .data }, { on := 19, ground := .guard }], guard := some (19, true) }) (v := ?vm427) rfl (by kernel_rfl) (by kernel_rfl) (by kernel_rfl) (fun _ _ _ h => h) (Or.inl ⟨by rfl, ?hym427⟩) (by assumption) ?restm427
      case hym427 => (intro w hSw; (try dsimp only at hSw); go_simp; try with_reducible rfl)
      try simp only [Act.put, List.setIfInBounds_toArray, List.set_cons_zero, List.set_cons_succ]
      refine wpAnyH_take (i := 28) (oi := { dst := some 128, op := .load 3 (.tmp 127), type := 3, pos := "lex.go:169", after := #[{ on := 27, ground := .data }, { on := 19, ground := .guard }], guard := some (19, true) }) (v := ?vm428) rfl (by kernel_rfl) (by kernel_rfl) (by kernel_rfl) (fun _ _ _ h => h) (Or.inl ⟨by rfl, ?hym428⟩) (by assumption) ?restm428
      case hym428 => (intro w hSw; (try dsimp only at hSw); go_simp; try with_reducible rfl)
      try simp only [Act.put, List.setIfInBounds_toArray, List.set_cons_zero, List.set_cons_succ]
      refine wpAnyH_take (i := 29) (oi := { dst := some 129, op := .move (.tmp 0), type := 65, pos := "lex.go:169", after := #[{ on := 19, ground := .guard }], guard := some (19, true) }) (v := ?vm429) rfl (by kernel_rfl) (by kernel_rfl) (by kernel_rfl) (fun _ _ _ h => h) (Or.inl ⟨by rfl, ?hym429⟩) (by assumption) ?restm429
      case hym429 => (intro w hSw; (try dsimp only at hSw); go_simp; try with_reducible rfl)
      try simp only [Act.put, List.setIfInBounds_toArray, List.set_cons_zero, List.set_cons_succ]
      refine wpAnyH_take (i := 30) (oi := { dst := some 130, op := .nilCheck (.tmp 129), type := 0, pos := "lex.go:169", after := #[{ on := 29, ground := .data }, { on := 19, ground := .guard }], guard := some (19, true) }) (v := ?vm430) rfl (by kernel_rfl) (by kernel_rfl) (by kernel_rfl) (fun _ _ _ h => h) (Or.inl ⟨by rfl, ?hym430⟩) (by assumption) ?restm430
      case hym430 => (intro w hSw; (try dsimp only at hSw); go_simp; try with_reducible rfl)
      try simp only [Act.put, List.setIfInBounds_toArray, List.set_cons_zero, List.set_cons_succ]
      refine wpAnyH_take (i := 31) (oi := { dst := some 131, op := .fieldAddr 67 (.tmp 130) 1, type := 0, pos := "lex.go:169", after := #[{ on := 30, ground := .data }, { on := 19, ground := .guard }], guard := some (19, true) }) (v := ?vm431) rfl (by kernel_rfl) (by kernel_rfl) (by kernel_rfl) (fun _ _ _ h => h) (Or.inl ⟨by rfl, ?hym431⟩) (by assumption) ?restm431
      case hym431 => (intro w hSw; (try dsimp only at hSw); go_simp; try with_reducible rfl)
      try simp only [Act.put, List.setIfInBounds_toArray, List.set_cons_zero, List.set_cons_succ]
      refine wpAnyH_take (i := 32) (oi := { dst := some 132, op := .load 3 (.tmp 131), type := 3, pos := "lex.go:169", after := #[{ on := 31, ground := .data }, { on := 19, ground := .guard }], guard := some (19, true) }) (v := ?vm432) rfl (by kernel_rfl) (by kernel_rfl) (by kernel_rfl) (fun _ _ _ h => h) (Or.inl ⟨by rfl, ?hym432⟩) (by assumption) ?restm432
      case hym432 => (intro w hSw; (try dsimp only at hSw); go_simp; try with_reducible rfl)
      try simp only [Act.put, List.setIfInBounds_toArray, List.set_cons_zero, List.set_cons_succ]
      refine wpAnyH_take (i := 33) (oi := { dst := some 133, op := .binOp .eql 3 (.tmp 128) (.tmp 132) 3, type := 4, pos := "lex.go:169", after := #[{ on := 28, ground := .data }, { on := 32, ground := .data }, { on := 19, ground := .guard }], guard := some (19, true) }) (v := ?vm433) rfl (by kernel_rfl) (by kernel_rfl) (by kernel_rfl) (fun _ _ _ h => h) (Or.inl ⟨by rfl, ?hym433⟩) (by assumption) ?restm433
      case hym433 => (intro w hSw; (try dsimp only at hSw); go_simp; try with_reducible rfl)
      try simp only [Act.put, List.setIfInBounds_toArray, List.set_cons_zero, List.set_cons_succ]
      refine wpAnyH_take (i := 34) (oi := { dst := some 134, op := .pick (.tmp 119) (.tmp 133) (.const (.bool false)), type := 4, pos := "lex.go:169", after := #[{ on := 19, ground := .data }, { on := 33, ground := .data }], guard := none }) (v := ?vm434) rfl (by kernel_rfl) (by kernel_rfl) (by kernel_rfl) (fun _ _ _ h => h) (Or.inl ⟨by rfl, ?hym434⟩) (by assumption) ?restm434
      case hym434 => (intro w hSw; (try dsimp only at hSw); go_simp; try with_reducible rfl)
      try simp only [Act.put, List.setIfInBounds_toArray, List.set_cons_zero, List.set_cons_succ]
      refine wpAnyH_done (by kernel_rfl) ?_ _
      go_wp2_with fail
      go_meet
      case rel => exact ⟨4, tx, f + 1, (by first | exact R1.out | exact R1.out.drew | exact R1.out.drew.drew | exact R1.out.drew.drew.drew | exact R1.out.drew.drew.drew.drew | exact R1.out.drew.drew.drew.drew.drew), by rw [← HTX.out]; exact HONE⟩
     have hbf' : (((l[m]'hlm).b : Int) == (f : Int)) = false := beq_eq_false_iff_ne.mpr fun h => hbf (by omega)
     have HOP := Lib.hid (show opens l.getLast? f = false by rw [HO.out]; show ((l[m]'hlm).k == 1 && (l[m]'hlm).b == f) = false; rw [hk1, beq_eq_false_iff_ne.mpr hbf]; rfl)
     clear hbf
     have HONE := Lib.hid (HEX.out 5 (by unfold headN; rw [h46, hsm, hgr, hdi, hsi, h33, h59, h39, hmk, h40, HOP.out]; rfl))
     refine wp_region_held_drew (S := fun w1 => w1.cell? ⟨T, 1, none⟩ = some (.string tx) ∧ w1.cell? ⟨X, 1, none⟩ = some (.int .i64 (f : Int)) ∧ w1.cell? ⟨X, 2, none⟩ = some (.slice (some ⟨g, 0, none⟩) l.length cp) ∧ w1.cell? ⟨g, m * 4, none⟩ = some (.int .i64 (l[m]'hlm).k) ∧ w1.cell? ⟨g, m * 4 + 3, none⟩ = some (.int .i64 ((l[m]'hlm).b : Int))) (by kernel_rfl) ?Sm5 (fun hH0 => ?Bm5)
     case Sm5 => (exact ⟨t1, y1, y2, hc0, hc3⟩)
     refine wpAnyH_take (i := 0) (oi := { dst := some 100, op := .fieldAddr 60 (.tmp 2) 1, type := 0, pos := "lex.go:169", after := #[], guard := none }) (v := ?vm50) rfl (by kernel_rfl) (by kernel_rfl) (by kernel_rfl) (fun _ _ _ h => h) (Or.inl ⟨by rfl, ?hym50⟩) (by assumption) ?restm50
     case hym50 => (intro w hSw; (try dsimp only at hSw); go_simp; try with_reducible rfl)
     try simp only [Act.put, List.setIfInBounds_toArray, List.set_cons_zero, List.set_cons_succ]
     refine wpAnyH_take (i := 1) (oi := { dst := some 101, op := .load 9 (.tmp 100), type := 9, pos := "lex.go:169", after := #[{ on := 0, ground := .data }], guard := none }) (v := ?vm51) rfl (by kernel_rfl) (by kernel_rfl) (by kernel_rfl) (fun _ _ _ h => h) (Or.inl ⟨by rfl, ?hym51⟩) (by assumption) ?restm51
     case hym51 => (intro w hSw; (try dsimp only at hSw); go_simp; try with_reducible rfl)
     try simp only [Act.put, List.setIfInBounds_toArray, List.set_cons_zero, List.set_cons_succ]
     refine wpAnyH_take (i := 2) (oi := { dst := some 102, op := .binOp .eql 9 (.tmp 101) (.const (.string { data := #[40] })) 9, type := 4, pos := "lex.go:169", after := #[{ on := 1, ground := .data }], guard := none }) (v := (Value.bool true)) rfl (by kernel_rfl) (by kernel_rfl) (by kernel_rfl) (fun _ _ _ h => h) (Or.inl ⟨by rfl, ?hym52⟩) (by assumption) ?restm52
     case hym52 => (intro w hSw; (try dsimp only at hSw); go_simp; try exact hbu)
     try simp only [Act.put, List.setIfInBounds_toArray, List.set_cons_zero, List.set_cons_succ]
     refine wpAnyH_take (i := 3) (oi := { dst := some 103, op := .move (.tmp 102), type := 4, pos := "lex.go:169", after := #[{ on := 2, ground := .data }], guard := none }) (v := ?vm53) rfl (by kernel_rfl) (by kernel_rfl) (by kernel_rfl) (fun _ _ _ h => h) (Or.inl ⟨by rfl, ?hym53⟩) (by assumption) ?restm53
     case hym53 => (intro w hSw; (try dsimp only at hSw); go_simp; try with_reducible rfl)
     try simp only [Act.put, List.setIfInBounds_toArray, List.set_cons_zero, List.set_cons_succ]
     refine wpAnyH_take (i := 4) (oi := { dst := some 104, op := .move (.tmp 5), type := 3, pos := "lex.go:169", after := #[{ on := 3, ground := .guard }], guard := some (3, true) }) (v := ?vm54) rfl (by kernel_rfl) (by kernel_rfl) (by kernel_rfl) (fun _ _ _ h => h) (Or.inl ⟨by rfl, ?hym54⟩) (by assumption) ?restm54
     case hym54 => (intro w hSw; (try dsimp only at hSw); go_simp; try with_reducible rfl)
     try simp only [Act.put, List.setIfInBounds_toArray, List.set_cons_zero, List.set_cons_succ]
     refine wpAnyH_take (i := 5) (oi := { dst := some 105, op := .binOp .gtr 3 (.tmp 104) (.const (.int .i64 0)) 3, type := 4, pos := "lex.go:169", after := #[{ on := 4, ground := .data }, { on := 3, ground := .guard }], guard := some (3, true) }) (v := ?vm55) rfl (by kernel_rfl) (by kernel_rfl) (by kernel_rfl) (fun _ _ _ h => h) (Or.inl ⟨by rfl, ?hym55⟩) (by assumption) ?restm55
     case hym55 => (intro w hSw; (try dsimp only at hSw); go_simp; try with_reducible rfl)
     try simp only [Act.put, List.setIfInBounds_toArray, List.set_cons_zero, List.set_cons_succ]
     refine wpAnyH_take (i := 6) (oi := { dst := some 106, op := .pick (.tmp 103) (.tmp 105) (.const (.bool false)), type := 4, pos := "lex.go:169", after := #[{ on := 3, ground := .data }, { on := 5, ground := .data }], guard := none }) (v := ?vm56) rfl (by kernel_rfl) (by kernel_rfl) (by kernel_rfl) (fun _ _ _ h => h) (Or.inl ⟨by rfl, ?hym56⟩) (by assumption) ?restm56
     case hym56 => (intro w hSw; (try dsimp only at hSw); go_simp; try with_reducible rfl)
     try simp only [Act.put, List.setIfInBounds_toArray, List.set_cons_zero, List.set_cons_succ]
     refine wpAnyH_take (i := 7) (oi := { dst := some 107, op := .move (.tmp 106), type := 4, pos := "lex.go:169", after := #[{ on := 6, ground := .data }, { on := 3, ground := .chain }], guard := none }) (v := ?vm57) rfl (by kernel_rfl) (by kernel_rfl) (by kernel_rfl) (fun _ _ _ h => h) (Or.inl ⟨by rfl, ?hym57⟩) (by assumption) ?restm57
     case hym57 => (intro w hSw; (try dsimp only at hSw); go_simp; try with_reducible rfl)
     try simp only [Act.put, List.setIfInBounds_toArray, List.set_cons_zero, List.set_cons_succ]
     refine wpAnyH_take (i := 8) (oi := { dst := some 108, op := .move (.tmp 0), type := 65, pos := "lex.go:169", after := #[{ on := 7, ground := .guard }], guard := some (7, true) }) (v := ?vm58) rfl (by kernel_rfl) (by kernel_rfl) (by kernel_rfl) (fun _ _ _ h => h) (Or.inl ⟨by rfl, ?hym58⟩) (by assumption) ?restm58
     case hym58 => (intro w hSw; (try dsimp only at hSw); go_simp; try with_reducible rfl)
     try simp only [Act.put, List.setIfInBounds_toArray, List.set_cons_zero, List.set_cons_succ]
     refine wpAnyH_take (i := 9) (oi := { dst := some 109, op := .nilCheck (.tmp 108), type := 0, pos := "lex.go:169", after := #[{ on := 8, ground := .data }, { on := 7, ground := .guard }], guard := some (7, true) }) (v := ?vm59) rfl (by kernel_rfl) (by kernel_rfl) (by kernel_rfl) (fun _ _ _ h => h) (Or.inl ⟨by rfl, ?hym59⟩) (by assumption) ?restm59
     case hym59 => (intro w hSw; (try dsimp only at hSw); go_simp; try with_reducible rfl)
     try simp only [Act.put, List.setIfInBounds_toArray, List.set_cons_zero, List.set_cons_succ]
     refine wpAnyH_take (i := 10) (oi := { dst := some 110, op := .fieldAddr 67 (.tmp 109) 2, type := 0, pos := "lex.go:169", after := #[{ on := 9, ground := .data }, { on := 7, ground := .guard }], guard := some (7, true) }) (v := ?vm510) rfl (by kernel_rfl) (by kernel_rfl) (by kernel_rfl) (fun _ _ _ h => h) (Or.inl ⟨by rfl, ?hym510⟩) (by assumption) ?restm510
     case hym510 => (intro w hSw; (try dsimp only at hSw); go_simp; try with_reducible rfl)
     try simp only [Act.put, List.setIfInBounds_toArray, List.set_cons_zero, List.set_cons_succ]
     refine wpAnyH_take (i := 11) (oi := { dst := some 111, op := .load 46 (.tmp 110), type := 46, pos := "lex.go:169", after := #[{ on := 10, ground := .data }, { on := 7, ground := .guard }], guard := some (7, true) }) (v := ?vm511) rfl (by kernel_rfl) (by kernel_rfl) (by kernel_rfl) (fun _ _ _ h => h) (Or.inl ⟨by rfl, ?hym511⟩) (by assumption) ?restm511
     case hym511 => (intro w hSw; (try dsimp only at hSw); go_simp; try with_reducible rfl)
     try simp only [Act.put, List.setIfInBounds_toArray, List.set_cons_zero, List.set_cons_succ]
     refine wpAnyH_take (i := 12) (oi := { dst := some 112, op := .move (.tmp 5), type := 3, pos := "lex.go:169", after := #[{ on := 7, ground := .guard }], guard := some (7, true) }) (v := ?vm512) rfl (by kernel_rfl) (by kernel_rfl) (by kernel_rfl) (fun _ _ _ h => h) (Or.inl ⟨by rfl, ?hym512⟩) (by assumption) ?restm512
     case hym512 => (intro w hSw; (try dsimp only at hSw); go_simp; try with_reducible rfl)
     try simp only [Act.put, List.setIfInBounds_toArray, List.set_cons_zero, List.set_cons_succ]
     refine wpAnyH_take (i := 13) (oi := { dst := some 113, op := .binOp .sub 3 (.tmp 112) (.const (.int .i64 1)) 3, type := 3, pos := "lex.go:169", after := #[{ on := 12, ground := .data }, { on := 7, ground := .guard }], guard := some (7, true) }) (v := ?vm513) rfl (by kernel_rfl) (by kernel_rfl) (by kernel_rfl) (fun _ _ _ h => h) (Or.inl ⟨by rfl, ?hym513⟩) (by assumption) ?restm513
     case hym513 => (intro w hSw; (try dsimp only at hSw); go_simp; try with_reducible rfl)
     try simp only [Act.put, List.setIfInBounds_toArray, List.set_cons_zero, List.set_cons_succ]
     refine wpAnyH_take (i := 14) (oi := { dst := some 114, op := .indexAddr 46 (.tmp 111) (.tmp 113), type := 0, pos := "lex.go:169", after := #[{ on := 11, ground := .data }, { on := 13, ground := .data }, { on := 7, ground := .guard }], guard := some (7, true) }) (v := ?vm514) rfl (by kernel_rfl) (by kernel_rfl) (by kernel_rfl) (fun _ _ _ h => h) (Or.inl ⟨by rfl, ?hym514⟩) (by assumption) ?restm514
     case hym514 => (intro w hSw; (try dsimp only at hSw); go_simp; try with_reducible rfl)
     try simp only [Act.put, List.setIfInBounds_toArray, List.set_cons_zero, List.set_cons_succ]
     refine wpAnyH_take (i := 15) (oi := { dst := some 115, op := .fieldAddr 60 (.tmp 114) 0, type := 0, pos := "lex.go:169", after := #[{ on := 14, ground := .data }, { on := 7, ground := .guard }], guard := some (7, true) }) (v := ?vm515) rfl (by kernel_rfl) (by kernel_rfl) (by kernel_rfl) (fun _ _ _ h => h) (Or.inl ⟨by rfl, ?hym515⟩) (by assumption) ?restm515
     case hym515 => (intro w hSw; (try dsimp only at hSw); go_simp; try with_reducible rfl)
     try simp only [Act.put, List.setIfInBounds_toArray, List.set_cons_zero, List.set_cons_succ]
     refine wpAnyH_take (i := 16) (oi := { dst := some 116, op := .load 3 (.tmp 115), type := 3, pos := "lex.go:169", after := #[{ on := 15, ground := .data }, { on := 7, ground := .guard }], guard := some (7, true) }) (v := ?vm516) rfl (by kernel_rfl) (by kernel_rfl) (by kernel_rfl) (fun _ _ _ h => h) (Or.inl ⟨by rfl, ?hym516⟩) (by assumption) ?restm516
     case hym516 => (intro w hSw; (try dsimp only at hSw); go_simp; try with_reducible rfl)
     try simp only [Act.put, List.setIfInBounds_toArray, List.set_cons_zero, List.set_cons_succ]
     refine wpAnyH_take (i := 17) (oi := { dst := some 117, op := .binOp .eql 3 (.tmp 116) (.const (.int .i64 1)) 3, type := 4, pos := "lex.go:169", after := #[{ on := 16, ground := .data }, { on := 7, ground := .guard }], guard := some (7, true) }) (v := ?vm517) rfl (by kernel_rfl) (by kernel_rfl) (by kernel_rfl) (fun _ _ _ h => h) (Or.inl ⟨by rfl, ?hym517⟩) (by assumption) ?restm517
     case hym517 => (intro w hSw; (try dsimp only at hSw); go_simp; try with_reducible rfl)
     try simp only [Act.put, List.setIfInBounds_toArray, List.set_cons_zero, List.set_cons_succ]
     refine wpAnyH_take (i := 18) (oi := { dst := some 118, op := .pick (.tmp 107) (.tmp 117) (.const (.bool false)), type := 4, pos := "lex.go:169", after := #[{ on := 7, ground := .data }, { on := 17, ground := .data }], guard := none }) (v := ?vm518) rfl (by kernel_rfl) (by kernel_rfl) (by kernel_rfl) (fun _ _ _ h => h) (Or.inl ⟨by rfl, ?hym518⟩) (by assumption) ?restm518
     case hym518 => (intro w hSw; (try dsimp only at hSw); go_simp; try with_reducible rfl)
     try simp only [Act.put, List.setIfInBounds_toArray, List.set_cons_zero, List.set_cons_succ]
     refine wpAnyH_take (i := 19) (oi := { dst := some 119, op := .move (.tmp 118), type := 4, pos := "lex.go:169", after := #[{ on := 18, ground := .data }, { on := 7, ground := .chain }], guard := none }) (v := ?vm519) rfl (by kernel_rfl) (by kernel_rfl) (by kernel_rfl) (fun _ _ _ h => h) (Or.inl ⟨by rfl, ?hym519⟩) (by assumption) ?restm519
     case hym519 => (intro w hSw; (try dsimp only at hSw); go_simp; try with_reducible rfl)
     try simp only [Act.put, List.setIfInBounds_toArray, List.set_cons_zero, List.set_cons_succ]
     refine wpAnyH_take (i := 20) (oi := { dst := some 120, op := .move (.tmp 0), type := 65, pos := "lex.go:169", after := #[{ on := 19, ground := .guard }], guard := some (19, true) }) (v := ?vm520) rfl (by kernel_rfl) (by kernel_rfl) (by kernel_rfl) (fun _ _ _ h => h) (Or.inl ⟨by rfl, ?hym520⟩) (by assumption) ?restm520
     case hym520 => (intro w hSw; (try dsimp only at hSw); go_simp; try with_reducible rfl)
     try simp only [Act.put, List.setIfInBounds_toArray, List.set_cons_zero, List.set_cons_succ]
     refine wpAnyH_take (i := 21) (oi := { dst := some 121, op := .nilCheck (.tmp 120), type := 0, pos := "lex.go:169", after := #[{ on := 20, ground := .data }, { on := 19, ground := .guard }], guard := some (19, true) }) (v := ?vm521) rfl (by kernel_rfl) (by kernel_rfl) (by kernel_rfl) (fun _ _ _ h => h) (Or.inl ⟨by rfl, ?hym521⟩) (by assumption) ?restm521
     case hym521 => (intro w hSw; (try dsimp only at hSw); go_simp; try with_reducible rfl)
     try simp only [Act.put, List.setIfInBounds_toArray, List.set_cons_zero, List.set_cons_succ]
     refine wpAnyH_take (i := 22) (oi := { dst := some 122, op := .fieldAddr 67 (.tmp 121) 2, type := 0, pos := "lex.go:169", after := #[{ on := 21, ground := .data }, { on := 19, ground := .guard }], guard := some (19, true) }) (v := ?vm522) rfl (by kernel_rfl) (by kernel_rfl) (by kernel_rfl) (fun _ _ _ h => h) (Or.inl ⟨by rfl, ?hym522⟩) (by assumption) ?restm522
     case hym522 => (intro w hSw; (try dsimp only at hSw); go_simp; try with_reducible rfl)
     try simp only [Act.put, List.setIfInBounds_toArray, List.set_cons_zero, List.set_cons_succ]
     refine wpAnyH_take (i := 23) (oi := { dst := some 123, op := .load 46 (.tmp 122), type := 46, pos := "lex.go:169", after := #[{ on := 22, ground := .data }, { on := 19, ground := .guard }], guard := some (19, true) }) (v := ?vm523) rfl (by kernel_rfl) (by kernel_rfl) (by kernel_rfl) (fun _ _ _ h => h) (Or.inl ⟨by rfl, ?hym523⟩) (by assumption) ?restm523
     case hym523 => (intro w hSw; (try dsimp only at hSw); go_simp; try with_reducible rfl)
     try simp only [Act.put, List.setIfInBounds_toArray, List.set_cons_zero, List.set_cons_succ]
     refine wpAnyH_take (i := 24) (oi := { dst := some 124, op := .move (.tmp 5), type := 3, pos := "lex.go:169", after := #[{ on := 19, ground := .guard }], guard := some (19, true) }) (v := ?vm524) rfl (by kernel_rfl) (by kernel_rfl) (by kernel_rfl) (fun _ _ _ h => h) (Or.inl ⟨by rfl, ?hym524⟩) (by assumption) ?restm524
     case hym524 => (intro w hSw; (try dsimp only at hSw); go_simp; try with_reducible rfl)
     try simp only [Act.put, List.setIfInBounds_toArray, List.set_cons_zero, List.set_cons_succ]
     refine wpAnyH_take (i := 25) (oi := { dst := some 125, op := .binOp .sub 3 (.tmp 124) (.const (.int .i64 1)) 3, type := 3, pos := "lex.go:169", after := #[{ on := 24, ground := .data }, { on := 19, ground := .guard }], guard := some (19, true) }) (v := ?vm525) rfl (by kernel_rfl) (by kernel_rfl) (by kernel_rfl) (fun _ _ _ h => h) (Or.inl ⟨by rfl, ?hym525⟩) (by assumption) ?restm525
     case hym525 => (intro w hSw; (try dsimp only at hSw); go_simp; try with_reducible rfl)
     try simp only [Act.put, List.setIfInBounds_toArray, List.set_cons_zero, List.set_cons_succ]
     refine wpAnyH_take (i := 26) (oi := { dst := some 126, op := .indexAddr 46 (.tmp 123) (.tmp 125), type := 0, pos := "lex.go:169", after := #[{ on := 23, ground := .data }, { on := 25, ground := .data }, { on := 19, ground := .guard }], guard := some (19, true) }) (v := ?vm526) rfl (by kernel_rfl) (by kernel_rfl) (by kernel_rfl) (fun _ _ _ h => h) (Or.inl ⟨by rfl, ?hym526⟩) (by assumption) ?restm526
     case hym526 => (intro w hSw; (try dsimp only at hSw); go_simp; try with_reducible rfl)
     try simp only [Act.put, List.setIfInBounds_toArray, List.set_cons_zero, List.set_cons_succ]
     refine wpAnyH_take (i := 27) (oi := { dst := some 127, op := .fieldAddr 60 (.tmp 126) 3, type := 0, pos := "lex.go:169", after := #[{ on := 26, ground := .data }, { on := 19, ground := .guard }], guard := some (19, true) }) (v := ?vm527) rfl (by kernel_rfl) (by kernel_rfl) (by kernel_rfl) (fun _ _ _ h => h) (Or.inl ⟨by rfl, ?hym527⟩) (by assumption) ?restm527
     case hym527 => (intro w hSw; (try dsimp only at hSw); go_simp; try with_reducible rfl)
     try simp only [Act.put, List.setIfInBounds_toArray, List.set_cons_zero, List.set_cons_succ]
     refine wpAnyH_take (i := 28) (oi := { dst := some 128, op := .load 3 (.tmp 127), type := 3, pos := "lex.go:169", after := #[{ on := 27, ground := .data }, { on := 19, ground := .guard }], guard := some (19, true) }) (v := ?vm528) rfl (by kernel_rfl) (by kernel_rfl) (by kernel_rfl) (fun _ _ _ h => h) (Or.inl ⟨by rfl, ?hym528⟩) (by assumption) ?restm528
     case hym528 => (intro w hSw; (try dsimp only at hSw); go_simp; try with_reducible rfl)
     try simp only [Act.put, List.setIfInBounds_toArray, List.set_cons_zero, List.set_cons_succ]
     refine wpAnyH_take (i := 29) (oi := { dst := some 129, op := .move (.tmp 0), type := 65, pos := "lex.go:169", after := #[{ on := 19, ground := .guard }], guard := some (19, true) }) (v := ?vm529) rfl (by kernel_rfl) (by kernel_rfl) (by kernel_rfl) (fun _ _ _ h => h) (Or.inl ⟨by rfl, ?hym529⟩) (by assumption) ?restm529
     case hym529 => (intro w hSw; (try dsimp only at hSw); go_simp; try with_reducible rfl)
     try simp only [Act.put, List.setIfInBounds_toArray, List.set_cons_zero, List.set_cons_succ]
     refine wpAnyH_take (i := 30) (oi := { dst := some 130, op := .nilCheck (.tmp 129), type := 0, pos := "lex.go:169", after := #[{ on := 29, ground := .data }, { on := 19, ground := .guard }], guard := some (19, true) }) (v := ?vm530) rfl (by kernel_rfl) (by kernel_rfl) (by kernel_rfl) (fun _ _ _ h => h) (Or.inl ⟨by rfl, ?hym530⟩) (by assumption) ?restm530
     case hym530 => (intro w hSw; (try dsimp only at hSw); go_simp; try with_reducible rfl)
     try simp only [Act.put, List.setIfInBounds_toArray, List.set_cons_zero, List.set_cons_succ]
     refine wpAnyH_take (i := 31) (oi := { dst := some 131, op := .fieldAddr 67 (.tmp 130) 1, type := 0, pos := "lex.go:169", after := #[{ on := 30, ground := .data }, { on := 19, ground := .guard }], guard := some (19, true) }) (v := ?vm531) rfl (by kernel_rfl) (by kernel_rfl) (by kernel_rfl) (fun _ _ _ h => h) (Or.inl ⟨by rfl, ?hym531⟩) (by assumption) ?restm531
     case hym531 => (intro w hSw; (try dsimp only at hSw); go_simp; try with_reducible rfl)
     try simp only [Act.put, List.setIfInBounds_toArray, List.set_cons_zero, List.set_cons_succ]
     refine wpAnyH_take (i := 32) (oi := { dst := some 132, op := .load 3 (.tmp 131), type := 3, pos := "lex.go:169", after := #[{ on := 31, ground := .data }, { on := 19, ground := .guard }], guard := some (19, true) }) (v := ?vm532) rfl (by kernel_rfl) (by kernel_rfl) (by kernel_rfl) (fun _ _ _ h => h) (Or.inl ⟨by rfl, ?hym532⟩) (by assumption) ?restm532
     case hym532 => (intro w hSw; (try dsimp only at hSw); go_simp; try with_reducible rfl)
     try simp only [Act.put, List.setIfInBounds_toArray, List.set_cons_zero, List.set_cons_succ]
     refine wpAnyH_take (i := 33) (oi := { dst := some 133, op := .binOp .eql 3 (.tmp 128) (.tmp 132) 3, type := 4, pos := "lex.go:169", after := #[{ on := 28, ground := .data }, { on := 32, ground := .data }, { on := 19, ground := .guard }], guard := some (19, true) }) (v := ?vm533) rfl (by kernel_rfl) (by kernel_rfl) (by kernel_rfl) (fun _ _ _ h => h) (Or.inl ⟨by rfl, ?hym533⟩) (by assumption) ?restm533
     case hym533 => (intro w hSw; (try dsimp only at hSw); go_simp; try with_reducible rfl)
     try simp only [Act.put, List.setIfInBounds_toArray, List.set_cons_zero, List.set_cons_succ]
     refine wpAnyH_take (i := 34) (oi := { dst := some 134, op := .pick (.tmp 119) (.tmp 133) (.const (.bool false)), type := 4, pos := "lex.go:169", after := #[{ on := 19, ground := .data }, { on := 33, ground := .data }], guard := none }) (v := ?vm534) rfl (by kernel_rfl) (by kernel_rfl) (by kernel_rfl) (fun _ _ _ h => h) (Or.inl ⟨by rfl, ?hym534⟩) (by assumption) ?restm534
     case hym534 => (intro w hSw; (try dsimp only at hSw); go_simp; try with_reducible rfl)
     try simp only [Act.put, List.setIfInBounds_toArray, List.set_cons_zero, List.set_cons_succ]
     refine wpAnyH_done (by kernel_rfl) ?_ _
     go_wp2_with fail
     go_meet
     case rel => exact ⟨5, tx, f + 1, (by first | exact R1.out | exact R1.out.drew | exact R1.out.drew.drew | exact R1.out.drew.drew.drew | exact R1.out.drew.drew.drew.drew | exact R1.out.drew.drew.drew.drew.drew), by rw [← HTX.out]; exact HONE⟩
  case rest =>
   obtain ⟨K, tx, j, hst, hone⟩ := hcut
   have HBW := Lib.hid (BW.out.mono (Nat.le_of_lt hX))
   clear S0 SW OW TB0 BW HS HO HXO HFAR HNB HCV HHQ HLB
   obtain ⟨y0, y1, y2, yf⟩ := hst.sc.cells
   obtain ⟨t0, t1, t2, t3⟩ := box4t hst.tb
   have hXl := hst.sc.lt
   have hTl := heap_lt hst.tb
   have hXT : X ≠ T := by omega
   have tf : ∀ i, wc.frozen? ⟨T, i, none⟩ = false := fun i => by simp [World.frozen?, hst.tb]
   have hTk : ∀ g, g ≠ T → (wc.setCell ⟨T, 3, none⟩ (.int .i64 (j : Int))).heap[g]? = wc.heap[g]? := fun g hg => Below.heap_setCell _ _ _ _ hg
   obtain ⟨V, hV⟩ : ∃ V, V = wc.setCell ⟨T, 3, none⟩ (.int .i64 (j : Int)) := ⟨_, rfl⟩
   have TV := Lib.hid (show V.heap[T]? = some (.cells #[.int .i64 K, .string tx, .int .i64 (f : Int), .int .i64 (j : Int)] 60 (0, 0)) by rw [hV]; simpa using blk_set hst.tb 3 (.int .i64 (j : Int)))
   have SV := Lib.hid (show Sc V X s j (.slice A l.length cp) from by rw [hV]; exact (hTk X hXT).trans hst.sc)
   have OV := Lib.hid (show V.ownsRow X 60 4 (.slice A l.length cp) l.length (tkCells l) by rw [hV]; exact own_keep hst.own fun g hg => hTk g (by have := hst.far g hg; omega))
   have BV := Lib.hid (show Below X W V by rw [hV]; exact hst.low.setCell (p := ⟨T, 3, none⟩) (by show X ≤ T; omega) _)
   obtain ⟨item, ii1, ii2, ii3, ii4⟩ := elTok.hi
   clear hst hTk
   go_wp2_with fail
   rw [← hV]
   clear hV y0 y1 y2 yf t0 t1 t2 t3 tf hXl hTl
   obtain ⟨y0, y1, y2, yf⟩ := SV.out.cells
   obtain ⟨t0, t1, t2, t3⟩ := box4t TV.out
   have hXl := SV.out.lt
   have hTl := heap_lt TV.out
   go_region_law (refine step_append_lies _ rfl _ _ _ rfl X 60 item (.agg #[.int .i64 0, .string ⟨#[]⟩, .int .i64 0, .int .i64 0]) 4 40 Tryz.underlying46 ii1 ii2 ii3 ii4 rfl (by omega) _ l.length _ rfl (own_below OV.out (by first | exact ((Below.refl _ _).drew).alloc (Nat.le_refl _) _ | exact ((Below.refl _ _).alloc (Nat.le_refl _) _).drew | exact (Below.refl _ _).alloc (Nat.le_refl _) _)) ⟨V.heap.size, 0, none⟩ 1 1 [.int .i64 K, .string tx, .int .i64 (f : Int), .int .i64 (j : Int)] rfl rfl (World.news_of_block (heap_alloc_new _ _)) (one4 ⟨K, tx, f, j⟩) (by omega) (by unfold maxLen; omega) (by omega) (by simp; omega) _ rfl ?_; intro g1 cap1 w10 hown1 hg1 hat1 hlt1; have Z10 := keepSc (((by first | exact ((Below.refl _ _).drew).alloc (Nat.le_refl _) _ | exact ((Below.refl _ _).alloc (Nat.le_refl _) _).drew | exact (Below.refl _ _).alloc (Nat.le_refl _) _) : Below V.heap.size V _).block _ hXl |>.trans SV.out) (own_below OV.out (by first | exact ((Below.refl _ _).drew).alloc (Nat.le_refl _) _ | exact ((Below.refl _ _).alloc (Nat.le_refl _) _).drew | exact (Below.refl _ _).alloc (Nat.le_refl _) _)) hg1; have z2 := cell_of_row w10 X 2 _ _ _ Z10; have zl := heap_lt Z10; have zf := unfrozenT Z10)
   all_goals
    have FB := Lib.hid ((BV.out.trans (((by first | exact ((Below.refl _ _).drew).alloc (Nat.le_refl _) _ | exact ((Below.refl _ _).alloc (Nat.le_refl _) _).drew | exact (Below.refl _ _).alloc (Nat.le_refl _) _) : Below V.heap.size V _).mono (Nat.le_of_lt hXl))).grown hg1 (by simp; omega) (fun k hk => (OV.out.lt k hk).1))
    have FS := Lib.hid (scStore Z10 hown1)
    have HON := Lib.hid hone
    clear hown1 hg1 hat1 hlt1 Z10 y0 y1 y2 yf t0 t1 t2 t3
    go_wp2_with fail
    go_end0
    rw [HON.out.out]
    have h := FB.out.setCell (p := ⟨X, 2, none⟩) (Nat.le_refl _) (.slice (some ⟨g1, 0, none⟩) (l.length + 1) cap1)
    exact ⟨⟨rfl, _, FS.out.1, by rw [← tkCells_snoc]; exact FS.out.2⟩, HBW.out.trans h⟩
end Go.Proofs.YtlogcealmiokkaaGreatDoor
