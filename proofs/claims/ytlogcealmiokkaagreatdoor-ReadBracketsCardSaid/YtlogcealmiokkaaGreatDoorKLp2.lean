/- The program's lexer: the scanner in memory; 'while'. -/
import Derived.Test.YtlogcealmiokkaaGreatDoorKLp1
import Derived.WalkMore
import Derived.Deep.LoopGhost
import Derived.Deep.RegionHeld3
namespace Go.Proofs.YtlogcealmiokkaaGreatDoor
open Go.RowKit
def Sc (w : World) (X : Nat) (s : ByteArray) (k : Nat) (v : Value) : Prop := w.heap[X]? = some (.cells #[.string s, .int .i64 (k : Int), v] 67 (0, 0))
structure OnX (X : Nat) (w w' : World) : Prop where
 low : Below X w w'
 far : ∀ b, b < w.heap.size → b ≠ X → w'.heap[b]? = w.heap[b]?
theorem OnX.refl (X : Nat) (w : World) : OnX X w w := ⟨Below.refl _ _, fun _ _ _ => rfl⟩
theorem OnX.trans {X : Nat} {a b c : World} (h : OnX X a b) (k : OnX X b c) : OnX X a c := ⟨h.low.trans k.low, fun g hg hx => (k.far g (Nat.lt_of_lt_of_le hg h.low.size) hx).trans (h.far g hg hx)⟩
theorem OnX.drew {X : Nat} {a b : World} (h : OnX X a b) : OnX X a b.drew := ⟨h.low.drew, h.far⟩
theorem OnX.below {X : Nat} {a b : World} (hX : X < a.heap.size) (h : Below a.heap.size a b) : OnX X a b := ⟨h.mono (Nat.le_of_lt hX), fun g hg _ => h.block g hg⟩
theorem OnX.cell {X : Nat} {a b : World} (h : OnX X a b) {p : Addr} {u : Value} (hp : p.block ≠ X) (hc : a.cell? p = some u) : b.cell? p = some u := by
 have hl := World.block_lt_of_cell? a p hc
 rw [World.cell?_of_block (h.far _ hl hp)]
 exact hc
theorem Sc.lt {w : World} {X : Nat} {s : ByteArray} {k : Nat} {v : Value} (h : Sc w X s k v) : X < w.heap.size := heap_lt h
theorem Sc.cells {w : World} {X : Nat} {s : ByteArray} {k : Nat} {v : Value} (h : Sc w X s k v) : w.cell? ⟨X, 0, none⟩ = some (.string s) ∧ w.cell? ⟨X, 1, none⟩ = some (.int .i64 (k : Int)) ∧ w.cell? ⟨X, 2, none⟩ = some v ∧ (∀ i, w.frozen? ⟨X, i, none⟩ = false) :=
 ⟨cell_of_row w X 0 _ _ _ h, cell_of_row w X 1 _ _ _ h, cell_of_row w X 2 _ _ _ h, fun i => by simp [World.frozen?, show w.heap[X]? = _ from h]⟩
theorem Sc.at_ {w : World} {X : Nat} {s : ByteArray} {k : Nat} {v : Value} (h : Sc w X s k v) (j : Nat) : Sc (w.setCell ⟨X, 1, none⟩ (.int .i64 (j : Int))) X s j v ∧ OnX X w (w.setCell ⟨X, 1, none⟩ (.int .i64 (j : Int))) :=
 ⟨by simpa [Sc] using blk_set h 1 (.int .i64 (j : Int)), ⟨(Below.refl _ _).setCell (p := ⟨X, 1, none⟩) (Nat.le_refl _) _, fun g _ hg => Below.heap_setCell _ _ _ _ hg⟩⟩
theorem Sc.drew {w : World} {X : Nat} {s : ByteArray} {k : Nat} {v : Value} (h : Sc w X s k v) : Sc w.drew X s k v := h
theorem Sc.below {w w' : World} {X : Nat} {s : ByteArray} {k : Nat} {v : Value} (h : Sc w X s k v) (hb : Below w.heap.size w w') : Sc w' X s k v := (hb.block X h.lt).trans h
def oneOf (cs : List Int) (c : Int) : Bool := cs.any fun k => c == k
set_option maxHeartbeats 8000000 in
set_option maxRecDepth 100000 in
theorem while_any (K : Int) (cs : List Int) (hcs : ∀ n : Nat, n < 256 → oneOf cs (ofN n) = kindB K n) (s : ByteArray) (hs : s.size ≤ 100000) {w : World} {X b k : Nat} {v : Value} (h : Sc w X s k v) (hk : k ≤ s.size)
 (hbX : b ≠ X) (hbl : b < w.heap.size) (hm : cs.length ≤ 10) (hc : ∀ (i : Nat) (u : Int), cs[i]? = some u → w.cell? ⟨b, i, none⟩ = some (.int .i64 u)) :
 Calls Tryz.prog 51 #[.pointer (some ⟨X, 0, none⟩), .slice (some ⟨b, 0, none⟩) cs.length cs.length] w fun e w' =>
  e = .returned (.string (s.extract k (runN K s k))) ∧ Sc w' X s (runN K s k) v ∧ OnX X w w' := by
 have hb : ∀ (i : Nat) (h : i < s.size), (s[i]'h).toNat = bn s i := bn_eq s
 obtain ⟨m, hmm⟩ : ∃ m, m = cs.length := ⟨_, rfl⟩
 rw [← hmm]
 have HM := Lib.hid hmm
 have hm10 : m ≤ 10 := by omega
 have HC := Lib.hid hc
 have HCS := Lib.hid hcs
 have HS := Lib.hid h
 have HBX := Lib.hid hbX
 have hX := h.lt
 obtain ⟨x0, x1, x2, xf⟩ := h.cells
 clear hc hcs h hmm hm hbX
 go_enter Tryz.func51, Tryz.ntmps51
 go_wp2_with fail
 go_step3
 go_wp2_with fail
 go_step3
 go_wp2_with fail
 go_loopg [] (s.size - k) (fun g wr => ∃ j, j + g = s.size ∧ k ≤ j ∧ runN K s k = runN K s j ∧ Sc wr X s j v ∧ OnX X w wr)
 case atStart => exact ⟨k, by omega, Nat.le_refl _, rfl, HS.out, OnX.refl _ _⟩
 case round =>
  obtain ⟨j, hjg, hkj, hr, hsc, hon⟩ := hrel
  have HR := Lib.hid hr
  have SC := Lib.hid hsc
  have ON := Lib.hid hon
  have hXr := hsc.lt
  obtain ⟨y0, y1, y2, yf⟩ := hsc.cells
  clear hr hsc hon x0 x1 x2 xf
  by_cases hj : j < s.size
  ·have hj' : (j : Int) < (s.size : Int) := by omega
   have Y := Lib.hid (And.intro y0 y1)
   have CO := Lib.hid (fun W => of_any (bn s j) (bn_lt s j) W)
   obtain ⟨cv, hcv⟩ : ∃ cv, cv = ofN (bn s j) := ⟨_, rfl⟩
   rw [← hcv] at CO
   have HCV := Lib.hid hcv
   clear hcv
   go_wp2_with fail
   go_region
   go_wp2_with fail
   go_region_held3 (fun w' => w'.cell? ⟨X, 0, none⟩ = some (.string s) ∧ w'.cell? ⟨X, 1, none⟩ = some (.int .i64 (j : Int)))
    ((exact Y.out))
    ((go_at_call 47; (with_reducible refine (CO.out _).mono ?_); rintro e w1 ⟨rfl, rfl⟩))
   go_wp2_with fail
   obtain ⟨g0, hg0⟩ : ∃ g0, gk = g0 + 1 := ⟨gk - 1, by omega⟩
   clear y0 y1 y2 yf
   go_loopg [35] m (fun g iv w2 => ∃ i : Nat, i + g = m ∧ iv = .int .i64 (i : Int) ∧ (∀ (x : Nat) (u : Int), x < i → cs[x]? = some u → (cv == u) = false) ∧ Sc w2 X s j v ∧ OnX X w w2)
   case atStart => exact ⟨0, by omega, rfl, fun x u hx => absurd hx (by omega), SC.out, ON.out.drew.drew⟩
   case round =>
    clear SC ON Y CO
    obtain ⟨i, hig, rfl, hno, hsc, hon⟩ := hrel
    have NO := Lib.hid hno
    have SC := Lib.hid hsc
    have ON := Lib.hid hon
    have hXr := hsc.lt
    obtain ⟨y0, y1, y2, yf⟩ := hsc.cells
    have hbr := Nat.lt_of_lt_of_le hbl hon.low.size
    clear hno hsc hon
    by_cases hi : i < m
    ·have hi' : (i : Int) < (m : Int) := by omega
     obtain ⟨u, hu⟩ : ∃ u, cs[i]? = some u := ⟨_, List.getElem?_eq_getElem (by have := HM.out; omega)⟩
     have c0 := ON.out.cell (p := ⟨b, i, none⟩) HBX.out (HC.out i u hu)
     have HU := Lib.hid hu
     clear hu
     cases he : (cv == u)
     ·go_wp2_with fail
      go_roundg (gk - 1)
      case measure => omega
      case rel =>
       refine ⟨i + 1, by omega, by go_num, fun x z hx hz => ?_, SC.out, ON.out⟩
       by_cases hxi : x = i
       ·subst hxi
        rw [HU.out] at hz
        injection hz with hz
        subst hz
        exact he
       ·exact NO.out x z (by omega) hz
     ·have hk2 : kindB K (bn s j) = true := by
       rw [← HCS.out _ (bn_lt s j), ← HCV.out]
       exact List.any_eq_true.2 ⟨u, List.mem_of_getElem? HU.out, he⟩
      have s2 := SC.out.at_ (j + 1)
      rw [show ((j + 1 : Nat) : Int) = (j : Int) + 1 from by omega] at s2
      have S2 := Lib.hid s2
      clear s2
      have HR2 := Lib.hid (HR.out.trans (runN_step hj hk2))
      clear hk2
      go_wp2_with fail
      go_roundg g0
      case measure => omega
      case rel => exact ⟨j + 1, by omega, by omega, HR2.out, S2.out.1, ON.out.trans S2.out.2⟩
    ·have hk2 : kindB K (bn s j) = false := by
      rw [← HCS.out _ (bn_lt s j), ← HCV.out]
      refine Bool.eq_false_iff.2 fun h => ?_
      obtain ⟨u, hu, he⟩ := List.any_eq_true.1 h
      obtain ⟨x, hx⟩ := List.getElem?_of_mem hu
      have hxl : x < cs.length := by
       rcases Nat.lt_or_ge x cs.length with h1 | h1
       ·exact h1
       ·rw [List.getElem?_eq_none h1] at hx; cases hx
      rw [NO.out x u (by have := HM.out; omega) hx] at he
      cases he
     have HR2 := Lib.hid (HR.out.trans (runN_stop hk2))
     clear hk2
     have hkj' : (k : Int) ≤ (j : Int) := by omega
     have hjs' : (j : Int) ≤ (s.size : Int) := by omega
     go_wp2_with fail
     go_region
     go_wp2_with fail
     try rw [Exit.noGoto_ret]
     go_ret
     rw [HR2.out]
     exact ⟨rfl, SC.out, ON.out.drew⟩
  ·obtain rfl : j = s.size := by omega
   have HR2 := Lib.hid (HR.out.trans (runN_end (Nat.le_refl _)))
   have hkj' : (k : Int) ≤ (s.size : Int) := by omega
   go_wp2_with fail
   go_region
   go_wp2_with fail
   go_region
   go_wp2_with fail
   try rw [Exit.noGoto_ret]
   go_ret
   rw [HR2.out]
   exact ⟨rfl, SC.out, ON.out.drew.drew⟩
end Go.Proofs.YtlogcealmiokkaaGreatDoor
