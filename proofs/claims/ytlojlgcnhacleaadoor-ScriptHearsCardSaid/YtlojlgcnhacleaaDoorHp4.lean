/- strings' Replacer: built once, then used. -/
import Derived.Test.YtlojlgcnhacleaaDoorHp3
namespace Go.Proofs.YtlojlgcnhacleaaDoor
open Go.RowKit Go.Shelf

/-- The Replacer's cells. -/
abbrev repC (d l : Int) (r o : Value) : Obj := .cells #[.int .u32 d, .int .i32 l, .int .u32 0, r, o] 68 (0, 0)
theorem rep_set {w : World} {p : Nat} {d l : Int} {r o : Value} (h : w.heap[p]? = some (repC d l r o)) :
    (∀ d', (w.setCell ⟨p, 0, none⟩ (.int .u32 d')).heap[p]? = some (repC d' l r o)) ∧ (∀ l', (w.setCell ⟨p, 1, none⟩ (.int .i32 l')).heap[p]? = some (repC d l' r o)) ∧ (∀ r', (w.setCell ⟨p, 3, none⟩ r').heap[p]? = some (repC d l r' o)) ∧ (∀ o', (w.setCell ⟨p, 4, none⟩ o').heap[p]? = some (repC d l r o')) :=
  ⟨fun _ => by simpa using blk_set h 0 _, fun _ => by simpa using blk_set h 1 _, fun _ => by simpa using blk_set h 3 _, fun _ => by simpa using blk_set h 4 _⟩
theorem rep_cell {w : World} {p : Nat} {d l : Int} {r o : Value} (h : w.heap[p]? = some (repC d l r o)) :
    w.cell? ⟨p, 0, none⟩ = some (.int .u32 d) ∧ w.cell? ⟨p, 1, none⟩ = some (.int .i32 l) ∧ w.cell? ⟨p, 3, none⟩ = some r ∧ w.cell? ⟨p, 4, none⟩ = some o ∧ ∀ k, w.frozen? ⟨p, k, none⟩ = false :=
  ⟨cell_of_row w p 0 _ _ _ h, cell_of_row w p 1 _ _ _ h, cell_of_row w p 3 _ _ _ h, cell_of_row w p 4 _ _ _ h, fun k => by simp [World.frozen?, h]⟩
set_option maxRecDepth 100000 in
set_option maxHeartbeats 1600000 in
theorem buildOnce_any (w : World) (p x c : Nat) (hp : w.heap[p]? = some (repC 0 1 .nilIface (.slice (some ⟨x, 0, none⟩) 4 c)))
    (hx : FourX w x) :
    Calls Tryd.prog 22 #[.pointer (some ⟨p, 0, none⟩)] w fun e w' => e = .returned (.tuple #[]) ∧ ∃ b w1, w.heap.size ≤ b ∧ RpH w1 b ∧ Below w.heap.size w w1 ∧ w' = (w1.setCell ⟨p, 3, none⟩ (.iface 97 (.pointer (some ⟨b, 0, none⟩)))).setCell ⟨p, 4, none⟩ (.slice none 0 0) := by
  obtain ⟨-, -, p3, p4, pf⟩ := rep_cell hp
  have hB := rbuild_any w p x c hx p4
  have hpl := heap_lt hp
  have HP := Lib.hid hp
  clear hx hp p3 p4 pf
  go_enter Tryd.func22, Tryd.ntmps22
  go_wp2_with (go_at_call 30; go_must (refine hB.mono ?_; rintro e w1 ⟨b, rfl, hbl, hX, hbel⟩; have hq := (hbel.block p hpl).trans HP.out; obtain ⟨-, -, q3, q4, qf⟩ := rep_cell hq; have q5 := (rep_cell ((rep_set hq).2.2.1 (.iface 97 (.pointer (some ⟨b, 0, none⟩))))).2.2.2.1; have qg := (rep_cell ((rep_set hq).2.2.1 (.iface 97 (.pointer (some ⟨b, 0, none⟩))))).2.2.2.2; have qf3 := qf 3; have qg4 := qg 4; have HX := Lib.hid hX; have HQ := Lib.hid hq; clear hX hq qf qg))
  go_end0
  exact ⟨rfl, b, w1, hbl, HX.out, hbel, rfl⟩
theorem load_any (a : Addr) (x : Int) (w : World) (h : w.cell? a = some (.int .u32 x)) : Calls Tryd.prog 28 #[.pointer (some a)] w fun e w' => e = .returned (.bool (x != 0)) ∧ w' = w := by
  have hl := run_call_load (P := Tryd.prog) Tryd.func34 (by kernel_rfl) (by kernel_rfl) (by kernel_rfl) .u32 (by kernel_rfl) h
  go_enter Tryd.func28, Tryd.ntmps28
  go_wp2
  go_ret
  exact ⟨rfl, rfl⟩
set_option maxRecDepth 100000 in
set_option maxHeartbeats 1600000 in
theorem slow_any (w : World) (p x c : Nat) (hp : w.heap[p]? = some (repC 0 0 .nilIface (.slice (some ⟨x, 0, none⟩) 4 c))) (hxp : x ≠ p)
    (hx : FourX w x) :
    Calls Tryd.prog 29 #[.pointer (some ⟨p, 0, none⟩), .func (.func 22) #[.pointer (some ⟨p, 0, none⟩)] #[]] w fun e w' => e = .returned (.tuple #[]) ∧ ∃ b w1, w.heap.size ≤ b ∧ RpH w1 b ∧ Below w.heap.size (w.setCell ⟨p, 1, none⟩ (.int .i32 1)) w1 ∧
      w' = ((((w1.setCell ⟨p, 3, none⟩ (.iface 97 (.pointer (some ⟨b, 0, none⟩)))).setCell ⟨p, 4, none⟩ (.slice none 0 0)).drew.setCell ⟨p, 0, none⟩ (.int .u32 1)).setCell ⟨p, 1, none⟩ (.int .i32 0)) := by
  have hq := (rep_set hp).2.1 1
  obtain ⟨h0, h1, -, -, hf⟩ := rep_cell hp
  have f1 := hf 1
  have hLD := load_any _ 0 _ (rep_cell hq).1
  have hnot : ∀ (x : Bool) (w : World), (Op.unary .not (.bool x)).run Tryd.prog w = .ok (.bool (!x)) w := fun _ _ => rfl
  have hBO := buildOnce_any (w.setCell ⟨p, 1, none⟩ (.int .i32 1)) p x c hq (hx.keep (Below.heap_setCell _ _ _ _ hxp))
  have es : (w.setCell ⟨p, 1, none⟩ (.int .i32 1)).heap.size = w.heap.size := by simp
  rw [es] at hBO
  have hLF := lock_free ⟨p, 1, none⟩ w h1 f1
  have HQ := Lib.hid hq
  have HPL := Lib.hid (heap_lt hp)
  clear hx hp hq hf h0 h1 f1 es
  go_enter_defers Tryd.func29, Tryd.ntmps29
  go_wp2_with (first | (go_at_call 28; refine hLD.mono ?_; rintro e w' ⟨rfl, rfl⟩) | (go_at_call 35; refine hLF.mono ?_; rintro e w' ⟨rfl, rfl⟩) | (go_at_call 22; refine hBO.mono ?_; rintro e w' ⟨rfl, b, w1, hbl, hX, hbel, rfl⟩))
  have hw1 := (hbel.block p HPL.out).trans HQ.out
  have hw2 := (rep_set ((rep_set hw1).2.2.1 (.iface 97 (.pointer (some ⟨b, 0, none⟩))))).2.2.2 (.slice none 0 0)
  have hw3 := (rep_set (w := ((w1.setCell ⟨p, 3, none⟩ (.iface 97 (.pointer (some ⟨b, 0, none⟩)))).setCell ⟨p, 4, none⟩ (.slice none 0 0)).drew) hw2).1 1
  obtain ⟨d0, -, -, -, df⟩ := rep_cell hw2
  obtain ⟨-, e1, -, -, ef⟩ := rep_cell hw3
  refine leaves_cons (f := 37) (args := #[.pointer (some ⟨p, 0, none⟩), .bool true]) (by simp) (by simp [go_sem]) ?_
  refine (store_deferred ⟨p, 0, none⟩ (.int .u32 0) .returning _ d0 (df 0)).mono ?_
  rintro e u' w'' ⟨rfl, rfl, rfl⟩
  refine leaves_cons (f := 36) (args := #[.pointer (some ⟨p, 1, none⟩)]) (by simp [settle]) (by simp [go_sem]) ?_
  refine (unlock_deferred ⟨p, 1, none⟩ _ _ e1 (ef 1)).mono ?_
  rintro e u' w'' ⟨rfl, rfl, rfl⟩
  simp only [Leaves, settle]
  exact ⟨.tuple #[], by simp [results, Tryd.results29], rfl, b, w1, hbl, hX, hbel, rfl⟩
set_option maxRecDepth 100000 in
set_option maxHeartbeats 1600000 in
theorem do_first (w : World) (p x c : Nat) (hp : w.heap[p]? = some (repC 0 0 .nilIface (.slice (some ⟨x, 0, none⟩) 4 c))) (hxp : x ≠ p)
    (hx : FourX w x) :
    Calls Tryd.prog 21 #[.pointer (some ⟨p, 0, none⟩), .func (.func 22) #[.pointer (some ⟨p, 0, none⟩)] #[]] w fun e w' => e = .returned (.tuple #[]) ∧ ∃ b w1, w.heap.size ≤ b ∧ RpH w1 b ∧ Below w.heap.size (w.setCell ⟨p, 1, none⟩ (.int .i32 1)) w1 ∧
      w' = ((((w1.setCell ⟨p, 3, none⟩ (.iface 97 (.pointer (some ⟨b, 0, none⟩)))).setCell ⟨p, 4, none⟩ (.slice none 0 0)).drew.setCell ⟨p, 0, none⟩ (.int .u32 1)).setCell ⟨p, 1, none⟩ (.int .i32 0)) := by
  have hLD := load_any _ 0 _ (rep_cell hp).1
  have hS := slow_any w p x c hp hxp hx
  have hnot : ∀ (x : Bool) (w : World), (Op.unary .not (.bool x)).run Tryd.prog w = .ok (.bool (!x)) w := fun _ _ => rfl
  clear hp hx
  go_enter Tryd.func21, Tryd.ntmps21
  go_wp2_with (first | (go_at_call 28; refine hLD.mono ?_; rintro e w' ⟨rfl, rfl⟩) | (go_at_call 29; refine hS.mono ?_; rintro e w' ⟨rfl, b, w1, hbl, hX, hbel, rfl⟩))
  go_end0
  exact ⟨rfl, b, w1, hbl, hX, hbel, rfl⟩
theorem do_done (w : World) (p : Nat) (r o fv : Value) (hp : w.heap[p]? = some (repC 1 0 r o)) :
    Calls Tryd.prog 21 #[.pointer (some ⟨p, 0, none⟩), fv] w fun e w' => e = .returned (.tuple #[]) ∧ w' = w := by
  have hLD := load_any _ 1 _ (rep_cell hp).1
  have hnot : ∀ (x : Bool) (w : World), (Op.unary .not (.bool x)).run Tryd.prog w = .ok (.bool (!x)) w := fun _ _ => rfl
  clear hp
  go_enter Tryd.func21, Tryd.ntmps21
  go_wp2_with (go_at_call 28; refine hLD.mono ?_; rintro e w' ⟨rfl, rfl⟩)
  go_end0
  exact ⟨rfl, rfl⟩
end Go.Proofs.YtlojlgcnhacleaaDoor
