/- strings' Replacer: Replace. -/
import Derived.Test.YtlojlgcnhacleaaDoorHp4
namespace Go.Proofs.YtlojlgcnhacleaaDoor
open Go.RowKit Go.Shelf

/-- A Replacer, built. -/
structure RpD (w : World) (p b : Nat) : Prop where
  box : w.heap[p]? = some (repC 1 0 (.iface 97 (.pointer (some ⟨b, 0, none⟩))) (.slice none 0 0))
  tab : RpH w b
/-- A table's blocks are not the Replacer's: the Replacer's has five cells of another type. -/
theorem doneD {w w1 w' : World} {p b : Nat} {o : Value} (hp : w.heap[p]? = some (repC 0 0 .nilIface o)) (hpl : p < w.heap.size) (hX : RpH w1 b) (hbel : Below w.heap.size (w.setCell ⟨p, 1, none⟩ (.int .i32 1)) w1)
    (hw' : w' = ((((w1.setCell ⟨p, 3, none⟩ (.iface 97 (.pointer (some ⟨b, 0, none⟩)))).setCell ⟨p, 4, none⟩ (.slice none 0 0)).drew.setCell ⟨p, 0, none⟩ (.int .u32 1)).setCell ⟨p, 1, none⟩ (.int .i32 0))) : RpD w' p b ∧ Below p w w' ∧ ∀ k, k < w.heap.size → k ≠ p → w'.heap[k]? = w.heap[k]? := by
  have hq := (rep_set hp).2.1 1
  have hw1 := (hbel.block p hpl).trans hq
  have hw2 := (rep_set ((rep_set hw1).2.2.1 (.iface 97 (.pointer (some ⟨b, 0, none⟩))))).2.2.2 (.slice none 0 0)
  have hw3 := (rep_set (w := ((w1.setCell ⟨p, 3, none⟩ (.iface 97 (.pointer (some ⟨b, 0, none⟩)))).setCell ⟨p, 4, none⟩ (.slice none 0 0)).drew) hw2).1 1
  have hw4 := (rep_set hw3).2.1 0
  subst hw'
  refine ⟨⟨hw4, hX.keep fun k cs t f hk ht => ?_⟩, ?_, fun k hk hne => (Below.heap_setCell _ _ _ _ hne).trans ((Below.heap_setCell _ _ _ _ hne).trans ((Below.heap_setCell _ _ _ _ hne).trans ((Below.heap_setCell _ _ _ _ hne).trans ((hbel.block k hk).trans (Below.heap_setCell _ _ _ _ hne)))))⟩
  · have hne : k ≠ p := fun e => by
      subst e
      rw [hw1] at hk
      injection hk with hk
      injection hk with _ hk
      subst hk
      rcases ht with ht | ht | ⟨ht, _⟩ <;> exact absurd ht (by decide)
    exact (Below.heap_setCell _ _ _ _ hne).trans ((Below.heap_setCell _ _ _ _ hne).trans ((Below.heap_setCell _ _ _ _ hne).trans ((Below.heap_setCell _ _ _ _ hne).trans hk)))
  · have h1 : Below p w (w.setCell ⟨p, 1, none⟩ (.int .i32 1)) := (Below.refl p w).setCell (p := ⟨p, 1, none⟩) (Nat.le_refl _) _
    have h2 := h1.trans (hbel.mono (Nat.le_of_lt hpl))
    exact ((((h2.setCell (p := ⟨p, 3, none⟩) (Nat.le_refl _) _).setCell (p := ⟨p, 4, none⟩) (Nat.le_refl _) _).drew).setCell (p := ⟨p, 0, none⟩) (Nat.le_refl _) _).setCell (p := ⟨p, 1, none⟩) (Nat.le_refl _) _
theorem mkf (fn : Fn) (first cap : Array Value) (w : World) : (Instr.makeFunc fn first cap).run Tryd.prog w = .ok (.func fn first cap) w := rfl
theorem metRep (b : Nat) (w : World) : (method 261 97 (.pointer (some ⟨b, 0, none⟩)) "Replace").run Tryd.prog w = .ok (99, .pointer (some ⟨b, 0, none⟩)) w := by kernel_rfl
set_option maxRecDepth 100000 in
set_option maxHeartbeats 1600000 in
theorem replace_again (w : World) (p b : Nat) (s : ByteArray) (hs : s.size ≤ 100000000) (h : RpD w p b) :
    Calls Tryd.prog 12 #[.pointer (some ⟨p, 0, none⟩), .string s] w fun e w' => e = .returned (.string (ba (maskL s.data.toList))) ∧ Below w.heap.size w w' := by
  have hD := fun fv => do_done w p _ _ fv h.box
  have hR := breplace_any s hs b w h.tab.x
  have hmf := mkf
  have hmt := metRep b
  have p3 := (rep_cell h.box).2.2.1
  clear h
  go_enter Tryd.func12, Tryd.ntmps12
  go_wp2_with (first | (go_at_call 21; refine (hD _).mono ?_; rintro e w' ⟨rfl, rfl⟩) | (go_at_call 99; refine hR.mono ?_; rintro e w' ⟨rfl, hb⟩))
  go_ret
  exact ⟨rfl, hb⟩
set_option maxRecDepth 100000 in
set_option maxHeartbeats 1600000 in
theorem replace_first (w : World) (p x c : Nat) (s : ByteArray) (hs : s.size ≤ 100000000) (hp : w.heap[p]? = some (repC 0 0 .nilIface (.slice (some ⟨x, 0, none⟩) 4 c))) (hxp : x ≠ p)
    (hx : FourX w x) :
    Calls Tryd.prog 12 #[.pointer (some ⟨p, 0, none⟩), .string s] w fun e w' => e = .returned (.string (ba (maskL s.data.toList))) ∧ ∃ b, RpD w' p b ∧ Below p w w' ∧ ∀ k, k < w.heap.size → k ≠ p → w'.heap[k]? = w.heap[k]? := by
  have hD := do_first w p x c hp hxp hx
  have hmf := mkf
  have hmt := metRep
  have HP := Lib.hid hp
  have HPL := Lib.hid (heap_lt hp)
  clear hp hx
  go_enter Tryd.func12, Tryd.ntmps12
  go_wp2_with (first | (go_at_call 21; refine hD.mono ?_; rintro e w' ⟨rfl, b, w1, hbl, hX, hbel, hw'⟩; have HH := doneD HP.out HPL.out hX hbel hw'; have p3 := (rep_cell HH.1.box).2.2.1; have hR := breplace_any s hs b w' HH.1.tab.x; have HH' := Lib.hid HH; clear HH hX hw' hbel) | (go_at_call 99; refine hR.mono ?_; rintro e w2 ⟨rfl, hb⟩))
  go_ret
  exact ⟨rfl, b, ⟨(hb.block p (heap_lt HH'.out.1.box)).trans HH'.out.1.box, HH'.out.1.tab.below hb⟩, HH'.out.2.1.trans (hb.mono (Nat.le_of_lt (heap_lt HH'.out.1.box))), fun k hk hne => (hb.block k (Nat.lt_of_lt_of_le hk HH'.out.2.1.size)).trans (HH'.out.2.2 k hk hne)⟩
end Go.Proofs.YtlojlgcnhacleaaDoor
