/- The reference's parser: atom, cmp, two, one. The reference's lexer: its tests of one byte. -/
import Derived.Test.YtibcpdmeigdgpaaGreatDoorKGc
import Derived.WalkKit
import Derived.Test.YtibcpdmeigdgpaaGreatDoorKGb
import Derived.Test.YtibcpdmeigdgpaaGreatDoorProg
import Derived.Lib.Hide
import Derived.Below
import Derived.Laws.Rows
namespace Go.Proofs.YtibcpdmeigdgpaaGreatDoor
open Go.RowKit
theorem Tryz.info_term : (Tryz.prog.info? 39).map (fun i => (i.zero, i.size, i.bytes)) = some (some (.agg #[.int .i64 0, .int .i64 0, .string ⟨#[]⟩, .slice none 0 0]), 4, 56) := by kernel_rfl
theorem elTerm : El Tryz.prog 35 39 (.agg #[.int .i64 0, .int .i64 0, .string ⟨#[]⟩, .slice none 0 0]) 4 56 := by
 obtain ⟨i0, hi, hz0, hz1, hz2⟩ := info_parts Tryz.info_term
 exact ⟨Tryz.underlying35, ⟨i0, hi, hz0, hz1, hz2⟩, rfl, by omega⟩
def Cells4 (w : World) (S : Nat → Prop) (cs : Array Value) (n : Nat) (ts : Nat → T) : Prop :=
 ∀ i, i < n → ∃ v0 v1 v2 v3, cs[4 * i]? = some v0 ∧ cs[4 * i + 1]? = some v1 ∧ cs[4 * i + 2]? = some v2 ∧ cs[4 * i + 3]? = some v3 ∧ TP w S (ts i) (.agg #[v0, v1, v2, v3])
theorem one_cells {w : World} {S : Nat → Prop} {t : T} {v0 v1 v2 v3 : Value} (h : TP w S t (.agg #[v0, v1, v2, v3])) : v0.oneCell' = true ∧ v1.oneCell' = true ∧ v2.oneCell' = true ∧ v3.oneCell' = true := by
 obtain ⟨k, n, s, A, m, c, he⟩ := h.agg
 injection he with he
 simp only [Array.mk.injEq, List.cons.injEq, and_true] at he
 obtain ⟨rfl, rfl, rfl, rfl⟩ := he
 exact ⟨rfl, rfl, rfl, rfl⟩
theorem Cells4.get {w : World} {S : Nat → Prop} {cs : Array Value} {n : Nat} {ts : Nat → T} (h : Cells4 w S cs n ts) (j : Nat) (hj : j < n * 4) : ∃ u, cs[j]? = some u ∧ u.oneCell' = true := by
 obtain ⟨v0, v1, v2, v3, h0, h1, h2, h3, ht⟩ := h (j / 4) (by omega)
 obtain ⟨o0, o1, o2, o3⟩ := one_cells ht
 rcases (by omega : j = 4 * (j / 4) ∨ j = 4 * (j / 4) + 1 ∨ j = 4 * (j / 4) + 2 ∨ j = 4 * (j / 4) + 3) with e | e | e | e
 ·exact ⟨v0, by rw [e]; exact h0, o0⟩
 ·exact ⟨v1, by rw [e]; exact h1, o1⟩
 ·exact ⟨v2, by rw [e]; exact h2, o2⟩
 ·exact ⟨v3, by rw [e]; exact h3, o3⟩
theorem Cells4.size {w : World} {S : Nat → Prop} {cs : Array Value} {n : Nat} {ts : Nat → T} (h : Cells4 w S cs n ts) : n * 4 ≤ cs.size := by
 rcases Nat.eq_zero_or_pos n with h0 | h0
 ·omega
 ·obtain ⟨u, hu, _⟩ := h.get (n * 4 - 1) (by omega)
  have := (Array.getElem?_eq_some_iff.1 hu).1
  omega
theorem box_put4 {w : World} {g : Nat} {t : TypeId} {m : Nat × Nat} {u0 u1 u2 u3 : Value} (h : w.heap[g]? = some (.cells #[u0, u1, u2, u3] t m)) (a b c d : Value) {W : World}
 (hW : (((w.setCell ⟨g, 0, none⟩ a).setCell ⟨g, 1, none⟩ b).setCell ⟨g, 2, none⟩ c).setCell ⟨g, 3, none⟩ d = W) :
 W.heap[g]? = some (.cells #[a, b, c, d] t m) ∧ W.heap.size = w.heap.size ∧ (∀ k, k ≠ g → W.heap[k]? = w.heap[k]?) ∧ ∀ B w0, B ≤ g → Below B w0 w → Below B w0 W := by
 subst hW
 refine ⟨by simpa using blk_set (blk_set (blk_set (blk_set h 0 a) 1 b) 2 c) 3 d, by simp, fun k hk => ?_, fun B w0 hB hw => (((hw.setCell hB a).setCell hB b).setCell hB c).setCell hB d⟩
 rw [Below.heap_setCell _ _ _ k hk, Below.heap_setCell _ _ _ k hk, Below.heap_setCell _ _ _ k hk, Below.heap_setCell _ _ _ k hk]
set_option maxRecDepth 100000 in
set_option maxHeartbeats 1000000 in
theorem cmp_tp (nm : ByteArray) (S : Nat → Prop) (g n c : Nat) (cs : Array Value) (f : Nat × Nat) (ts : Nat → T) (w : World) (hn : 0 < n) (hn' : n ≤ 2000) (hc : n ≤ c) (hg : w.heap[g]? = some (.cells cs 39 f)) (hcs : Cells4 w S cs n ts) :
 Calls Tryz.prog 76 #[.string nm, .slice (some ⟨g, 0, none⟩) n c] w fun e w' => (∃ v, e = .returned v ∧ TP w' (fun b => S b ∨ w.heap.size ≤ b) (.mk 4 0 nm n ts) v) ∧ Below w.heap.size w w' := by
 have hsz := hcs.size
 have hgw := heap_lt hg
 have HC := Lib.hid hcs
 have HG := Lib.hid hg
 clear hcs hg
 go_enter Tryz.func76, Tryz.ntmps76
 have hbox0 := Lib.hid ((Below.heap_alloc (w.alloc (Obj.cells #[.int .i64 0, .int .i64 0, .string ⟨#[]⟩, .slice none 0 0] 39)) (Obj.cells #[] 39) w.heap.size (by simp)).trans (heap_alloc_new w _))
 have B0 := Lib.hid (((Below.refl w.heap.size w).alloc (Nat.le_refl _) (Obj.cells #[.int .i64 0, .int .i64 0, .string ⟨#[]⟩, .slice none 0 0] 39)).alloc (by simp) (Obj.cells #[] 39))
 have hown := Lib.hid (ownsRow_empty ((w.alloc (Obj.cells #[.int .i64 0, .int .i64 0, .string ⟨#[]⟩, .slice none 0 0] 39)).alloc (Obj.cells #[] 39)) 39 4 (w.heap.size + 1) ((congrArg _ (by simp)).trans (heap_alloc_new _ _)))
 have HGW := Lib.hid ((Below.heap_alloc (w.alloc (Obj.cells #[.int .i64 0, .int .i64 0, .string ⟨#[]⟩, .slice none 0 0] 39)) (Obj.cells #[] 39) g (by simp <;> omega)).trans ((Below.heap_alloc w _ g hgw).trans HG.out))
 go_wp2_with (at_builtin; go_must (refine wpList_append_cells _ rfl _ _ _ rfl elTerm (w.heap.size + 1) _ _ _ rfl hown.out (some ⟨g, 0, none⟩) n c (cs.toList.take (n * 4)) rfl (fun h => by cases h) hc (by simp <;> omega) (fun _ => ⟨g, 0, rfl, fun j u hu => ?_⟩) ?_ (by omega) (by unfold maxLen; omega) (by simp) ?_))
 ·rw [Nat.zero_add, cell_of_row _ g j _ _ _ HGW.out]
  rw [List.getElem?_take] at hu
  split at hu
  ·rw [← Array.getElem?_toList]; exact hu
  ·cases hu
 ·intro u hu
  obtain ⟨j, hj, he⟩ := List.getElem_of_mem hu
  have hj2 : j < n * 4 := by have := hj; simp at this; omega
  obtain ⟨u', h1, h2⟩ := HC.out.get j hj2
  rw [List.getElem_take, Array.getElem_toList] at he
  rw [Array.getElem?_eq_getElem (by omega), he] at h1
  injection h1 with h1
  subst h1
  exact h2
 intro v1 w1 hown1 hg1
 obtain ⟨A, cc, rfl, hcc, hA, _, hx⟩ := own_open hown1
 obtain ⟨b, cur, rfl, hb, hhb, hcur⟩ := hx (by omega)
 have hbx := Lib.hid ((hg1.block w.heap.size (by simp <;> omega) (by simp [Value.ownBlock])).trans hbox0.out)
 have xf : ∀ j, w1.frozen? ⟨w.heap.size, j, none⟩ = false := fun j => by simp [World.frozen?, hbx.out]
 obtain ⟨x0, x1, x2, x3⟩ := box4t hbx.out
 have B1 := Lib.hid (B0.out.grown hg1 (by simp <;> omega) (by simp [Value.ownBlock]))
 clear hown1 hg1 hx hA
 go_wp2_with fail
 have P := box_put4 hbx.out (.int .i64 4) (.int .i64 0) (.string nm) (.slice (some ⟨b, 0, none⟩) n cc) rfl
 obtain ⟨p0, p1, p2, p3⟩ := box4t P.1
 have hbne : b ≠ w.heap.size := by omega
 refine bodyPost_ret (v := .agg #[.int .i64 4, .int .i64 0, .string nm, .slice (some ⟨b, 0, none⟩) n cc]) (by simp [results, go_sem, p0, p1, p2, p3]) rfl ?_
 have B2 := P.2.2.2 w.heap.size w (Nat.le_refl _) B1.out
 refine ⟨⟨_, rfl, _, cc, rfl, hcc, (fun h => by cases h), fun _ => ⟨b, cur, (0, 0), rfl, .inr (by omega), (P.2.2.1 b hbne).trans hhb, fun i hi => ?_⟩⟩, B2⟩
 obtain ⟨v0, v1, v2, v3, h0, h1, h2, h3, ht⟩ := HC.out i hi
 have key : ∀ j, j < n * 4 → cur[j]? = cs[j]? := fun j hj => by
  rw [hcur j hj, List.getElem?_take, if_pos hj, Array.getElem?_toList]
 refine ⟨v0, v1, v2, v3, (key _ (by omega)).trans h0, (key _ (by omega)).trans h1, (key _ (by omega)).trans h2, (key _ (by omega)).trans h3, ht.keep fun b' cs' f' hS hb' => ⟨?_, .inl hS⟩⟩
 exact (B2.block b' (heap_lt hb')).trans hb'
theorem tp_put {w : World} {g : Nat} {ty : TypeId} {m : Nat × Nat} {u0 u1 u2 u3 : Value} (h : w.heap[g]? = some (.cells #[u0, u1, u2, u3] ty m)) (a b c d : Value) {S : Nat → Prop} {t : T} {v : Value} (ht : TP w S t v) (hne : ∀ b, S b → b ≠ g) :
 TP ((((w.setCell ⟨g, 0, none⟩ a).setCell ⟨g, 1, none⟩ b).setCell ⟨g, 2, none⟩ c).setCell ⟨g, 3, none⟩ d) S t v :=
 ht.keep fun b' _ _ hS hb => ⟨((box_put4 h a b c d rfl).2.2.1 b' (hne b' hS)).trans hb, hS⟩
theorem TP.old {w : World} {S : Nat → Prop} {t : T} {v : Value} (h : TP w S t v) : TP w (fun b => S b ∧ b < w.heap.size) t v := h.keep fun _ _ _ hS hb => ⟨hb, hS, heap_lt hb⟩
theorem TP.below {w w' : World} {S : Nat → Prop} {t : T} {v : Value} (h : TP w S t v) (hb : Below w.heap.size w w') : TP w' S t v := h.keep fun b _ _ hS hh => ⟨(hb.block b (heap_lt hh)).trans hh, hS⟩
theorem atom_any (nm : ByteArray) (w : World) : Calls Tryz.prog 72 #[.string nm] w fun e w' => e = .returned (.agg #[.int .i64 3, .int .i64 0, .string nm, .slice none 0 0]) ∧ Below w.heap.size w w' := by
 go_enter Tryz.func72, Tryz.ntmps72
 go_wp2_with fail
 refine bodyPost_ret (v := .agg #[.int .i64 3, .int .i64 0, .string nm, .slice none 0 0]) (by simp [results, go_sem]) rfl ?_
 exact ⟨rfl, (Below.refl _ _).alloc (Nat.le_refl _) _⟩
set_option maxRecDepth 100000 in
set_option maxHeartbeats 1000000 in
theorem one_tp (nm : ByteArray) (S : Nat → Prop) (t : T) (v : Value) (w : World) (h : TP w S t v) :
 Calls Tryz.prog 73 #[.string nm, v] w fun e w' => (∃ v, e = .returned v ∧ TP w' (fun b => S b ∨ w.heap.size ≤ b) (.mk 4 0 nm 1 fun _ => t) v) ∧ Below w.heap.size w w' := by
 obtain ⟨k, n, s, A, m, cc, rfl⟩ := h.agg
 have ht := h
 have HT := Lib.hid ht
 clear ht h
 go_enter Tryz.func73, Tryz.ntmps73
 have B3 := Lib.hid ((((Below.refl w.heap.size w).alloc (Nat.le_refl _) (.cells #[Value.int .i64 k, .int .i64 n, .string s, .slice A m cc] 39)).alloc (by simp) (.cells #[.int .i64 0, .int .i64 0, .string ⟨#[]⟩, .slice none 0 0] 39)).alloc (by simp <;> omega) (.cells #[Value.int .i64 k, .int .i64 n, .string s, .slice A m cc] 39))
 have HT3 := Lib.hid (HT.out.old.below B3.out)
 go_wp2_with fail
 refine (cmp_tp nm (fun b => S b ∧ b < w.heap.size) (w.heap.size + 1 + 1) 1 1 #[Value.int .i64 k, .int .i64 n, .string s, .slice A m cc] (0, 0) (fun _ => t) _ (by omega) (by omega) (Nat.le_refl _) ((congrArg _ (by simp)).trans (heap_alloc_new _ _)) (fun i hi => ?_)).mono ?_
 ·obtain rfl : i = 0 := by omega
  exact ⟨_, _, _, _, rfl, rfl, rfl, rfl, HT3.out⟩
 rintro e w1 ⟨⟨v1, rfl, hv1⟩, h1⟩
 have hv := hv1
 obtain ⟨A1, c1, rfl, _⟩ := hv1
 have HV := Lib.hid hv
 have hbx := Lib.hid ((h1.block (w.heap.size + 1) (by simp <;> omega)).trans ((Below.heap_alloc _ _ _ (by simp <;> omega)).trans ((congrArg _ (by simp)).trans (heap_alloc_new (w.alloc (.cells #[Value.int .i64 k, .int .i64 n, .string s, .slice A m cc] 39)) (.cells #[.int .i64 0, .int .i64 0, .string ⟨#[]⟩, .slice none 0 0] 39)))))
 have B4 := Lib.hid (B3.out.trans (h1.mono (by simp <;> omega)))
 have xf : ∀ j, w1.frozen? ⟨w.heap.size + 1, j, none⟩ = false := fun j => by simp [World.frozen?, hbx.out]
 obtain ⟨x0, x1, x2, x3⟩ := box4t hbx.out
 clear hv h1
 go_wp2_with fail
 have P := box_put4 hbx.out (.int .i64 4) (.int .i64 0) (.string nm) (.slice A1 1 c1) rfl
 obtain ⟨p0, p1, p2, p3⟩ := box4t P.1
 refine bodyPost_ret (v := .agg #[.int .i64 4, .int .i64 0, .string nm, .slice A1 1 c1]) (by simp [results, go_sem, p0, p1, p2, p3]) rfl ?_
 refine ⟨⟨_, rfl, (tp_put hbx.out _ _ _ _ HV.out fun b hb => ?_).more fun b hb => ?_⟩, P.2.2.2 _ _ (by omega) B4.out⟩
 ·rcases hb with hb | hb
  ·omega
  ·simp at hb; omega
 ·rcases hb with hb | hb
  ·exact .inl hb.1
  ·simp at hb; exact .inr (by omega)
set_option maxRecDepth 100000 in
set_option maxHeartbeats 1000000 in
theorem two_tp (nm : ByteArray) (S : Nat → Prop) (t t' : T) (v v' : Value) (w : World) (h : TP w S t v) (h' : TP w S t' v') :
 Calls Tryz.prog 53 #[.string nm, v, v'] w fun e w' => (∃ v, e = .returned v ∧ TP w' (fun b => S b ∨ w.heap.size ≤ b) (.mk 4 0 nm 2 fun i => if i = 0 then t else t') v) ∧ Below w.heap.size w w' := by
 obtain ⟨k, n, s, A, m, cc, rfl⟩ := h.agg
 have ht := h
 obtain ⟨k', n', s', A', m', cc', rfl⟩ := h'.agg
 have ht' := h'
 have HT := Lib.hid ht
 have HT' := Lib.hid ht'
 clear ht h ht' h'
 go_enter Tryz.func53, Tryz.ntmps53
 have B3 := Lib.hid (((((Below.refl w.heap.size w).alloc (Nat.le_refl _) (.cells #[Value.int .i64 k, .int .i64 n, .string s, .slice A m cc] 39)).alloc (by simp) (.cells #[Value.int .i64 k', .int .i64 n', .string s', .slice A' m' cc'] 39)).alloc (by simp <;> omega) (.cells #[.int .i64 0, .int .i64 0, .string ⟨#[]⟩, .slice none 0 0] 39)).alloc (by simp <;> omega) (.cells #[Value.int .i64 k, .int .i64 n, .string s, .slice A m cc, .int .i64 k', .int .i64 n', .string s', .slice A' m' cc'] 39))
 have HT3 := Lib.hid (HT.out.old.below B3.out)
 have HT3' := Lib.hid (HT'.out.old.below B3.out)
 go_wp2_with fail
 refine (cmp_tp nm (fun b => S b ∧ b < w.heap.size) (w.heap.size + 1 + 1 + 1) 2 2 #[Value.int .i64 k, .int .i64 n, .string s, .slice A m cc, .int .i64 k', .int .i64 n', .string s', .slice A' m' cc'] (0, 0) (fun i => if i = 0 then t else t') _ (by omega) (by omega) (Nat.le_refl _) ((congrArg _ (by simp)).trans (heap_alloc_new _ _)) (fun i hi => ?_)).mono ?_
 ·rcases (by omega : i = 0 ∨ i = 1) with rfl | rfl
  ·exact ⟨_, _, _, _, rfl, rfl, rfl, rfl, HT3.out⟩
  ·exact ⟨_, _, _, _, rfl, rfl, rfl, rfl, HT3'.out⟩
 rintro e w1 ⟨⟨v1, rfl, hv1⟩, h1⟩
 have hv := hv1
 obtain ⟨A1, c1, rfl, _⟩ := hv1
 have HV := Lib.hid hv
 have hbx := Lib.hid ((h1.block (w.heap.size + 1 + 1) (by simp <;> omega)).trans ((Below.heap_alloc _ _ _ (by simp <;> omega)).trans ((congrArg _ (by simp)).trans (heap_alloc_new ((w.alloc (.cells #[Value.int .i64 k, .int .i64 n, .string s, .slice A m cc] 39)).alloc (.cells #[Value.int .i64 k', .int .i64 n', .string s', .slice A' m' cc'] 39)) (.cells #[.int .i64 0, .int .i64 0, .string ⟨#[]⟩, .slice none 0 0] 39)))))
 have B4 := Lib.hid (B3.out.trans (h1.mono (by simp <;> omega)))
 have xf : ∀ j, w1.frozen? ⟨w.heap.size + 1 + 1, j, none⟩ = false := fun j => by simp [World.frozen?, hbx.out]
 obtain ⟨x0, x1, x2, x3⟩ := box4t hbx.out
 clear hv h1
 go_wp2_with fail
 have P := box_put4 hbx.out (.int .i64 4) (.int .i64 0) (.string nm) (.slice A1 2 c1) rfl
 obtain ⟨p0, p1, p2, p3⟩ := box4t P.1
 refine bodyPost_ret (v := .agg #[.int .i64 4, .int .i64 0, .string nm, .slice A1 2 c1]) (by simp [results, go_sem, p0, p1, p2, p3]) rfl ?_
 refine ⟨⟨_, rfl, (tp_put hbx.out _ _ _ _ HV.out fun b hb => ?_).more fun b hb => ?_⟩, P.2.2.2 _ _ (by omega) B4.out⟩
 ·rcases hb with hb | hb
  ·omega
  ·simp at hb; omega
 ·rcases hb with hb | hb
  ·exact .inl hb.1
  ·simp at hb; exact .inr (by omega)
end Go.Proofs.YtibcpdmeigdgpaaGreatDoor
namespace Go.Proofs.YtibcpdmeigdgpaaGreatDoor
open Go.RowKit
set_option maxHeartbeats 1000000 in
theorem small_any (c : Int) (w : World) : Calls Tryz.prog 42 #[.int .u8 c] w fun e w' => e = .returned (.bool (smallB c)) ∧ w = w' := by
 by_cases h1 : 97 ≤ c <;> by_cases h2 : c ≤ 122
 all_goals
  go_enter Tryz.func42, Tryz.ntmps42
  go_wp2
  go_ret
  exact ⟨by simp [smallB, h1, h2], rfl⟩
set_option maxHeartbeats 1000000 in
theorem great_any (c : Int) (w : World) : Calls Tryz.prog 44 #[.int .u8 c] w fun e w' => e = .returned (.bool (greatB c)) ∧ w = w' := by
 by_cases h1 : 65 ≤ c <;> by_cases h2 : c ≤ 90 <;> by_cases h3 : c = 95
 all_goals
  have h4 : (c == 95) = decide (c = 95) := rfl
  first | (subst h3) | skip
  go_enter Tryz.func44, Tryz.ntmps44
  go_wp2
  go_ret
  exact ⟨by simp [greatB, *], rfl⟩
set_option maxHeartbeats 1000000 in
theorem digit_any (c : Int) (w : World) : Calls Tryz.prog 45 #[.int .u8 c] w fun e w' => e = .returned (.bool (digitB c)) ∧ w = w' := by
 by_cases h1 : 48 ≤ c <;> by_cases h2 : c ≤ 57
 all_goals
  go_enter Tryz.func45, Tryz.ntmps45
  go_wp2
  go_ret
  exact ⟨by simp [digitB, h1, h2], rfl⟩
set_option maxHeartbeats 1000000 in
theorem named_any (c : Int) (w : World) : Calls Tryz.prog 67 #[.int .u8 c] w fun e w' => e = .returned (.bool (namedB c)) ∧ w = w' := by
 cases h1 : smallB c <;> cases h2 : greatB c <;> cases h3 : digitB c
 all_goals
  go_enter Tryz.func67, Tryz.ntmps67
  go_wp2_with (first | (go_at_call 42; refine (small_any c _).mono ?_; rintro e w1 ⟨rfl, rfl⟩) | (go_at_call 44; refine (great_any c _).mono ?_; rintro e w1 ⟨rfl, rfl⟩) | (go_at_call 45; refine (digit_any c _).mono ?_; rintro e w1 ⟨rfl, rfl⟩))
  go_ret
  exact ⟨by simp [namedB, h1, h2, h3], rfl⟩
set_option maxHeartbeats 1000000 in
theorem blank_any (c : Int) (w : World) : Calls Tryz.prog 41 #[.int .u8 c] w fun e w' => e = .returned (.bool (blankB c)) ∧ w = w' := by
 cases h32 : (c == 32)
 case true =>
  go_enter Tryz.func41, Tryz.ntmps41
  go_wp2
  go_ret
  exact ⟨by rw [show blankB c = true by unfold blankB; rw [h32]; rfl]; rfl, rfl⟩
 cases h9 : (c == 9)
 case true =>
  go_enter Tryz.func41, Tryz.ntmps41
  go_wp2
  go_ret
  exact ⟨by rw [show blankB c = true by unfold blankB; rw [h32, h9]; rfl]; rfl, rfl⟩
 cases h10 : (c == 10)
 case true =>
  go_enter Tryz.func41, Tryz.ntmps41
  go_wp2
  go_ret
  exact ⟨by rw [show blankB c = true by unfold blankB; rw [h32, h9, h10]; rfl]; rfl, rfl⟩
 cases h13 : (c == 13)
 case true =>
  go_enter Tryz.func41, Tryz.ntmps41
  go_wp2
  go_ret
  exact ⟨by rw [show blankB c = true by unfold blankB; rw [h32, h9, h10, h13]; rfl]; rfl, rfl⟩
 go_enter Tryz.func41, Tryz.ntmps41
 go_wp2
 go_ret
 exact ⟨by rw [show blankB c = false by unfold blankB; rw [h32, h9, h10, h13]; rfl]; rfl, rfl⟩
set_option maxHeartbeats 1000000 in
theorem lmark_any (c : Int) (w : World) : Calls Tryz.prog 47 #[.int .u8 c] w fun e w' => e = .returned (.bool (markB c)) ∧ w = w' := by
 cases h40 : (c == 40)
 case true =>
  go_enter Tryz.func47, Tryz.ntmps47
  go_wp2
  go_ret
  exact ⟨by rw [show markB c = true by unfold markB; rw [h40]; rfl]; rfl, rfl⟩
 cases h41 : (c == 41)
 case true =>
  go_enter Tryz.func47, Tryz.ntmps47
  go_wp2
  go_ret
  exact ⟨by rw [show markB c = true by unfold markB; rw [h40, h41]; rfl]; rfl, rfl⟩
 cases h91 : (c == 91)
 case true =>
  go_enter Tryz.func47, Tryz.ntmps47
  go_wp2
  go_ret
  exact ⟨by rw [show markB c = true by unfold markB; rw [h40, h41, h91]; rfl]; rfl, rfl⟩
 cases h93 : (c == 93)
 case true =>
  go_enter Tryz.func47, Tryz.ntmps47
  go_wp2
  go_ret
  exact ⟨by rw [show markB c = true by unfold markB; rw [h40, h41, h91, h93]; rfl]; rfl, rfl⟩
 cases h123 : (c == 123)
 case true =>
  go_enter Tryz.func47, Tryz.ntmps47
  go_wp2
  go_ret
  exact ⟨by rw [show markB c = true by unfold markB; rw [h40, h41, h91, h93, h123]; rfl]; rfl, rfl⟩
 cases h125 : (c == 125)
 case true =>
  go_enter Tryz.func47, Tryz.ntmps47
  go_wp2
  go_ret
  exact ⟨by rw [show markB c = true by unfold markB; rw [h40, h41, h91, h93, h123, h125]; rfl]; rfl, rfl⟩
 cases h44 : (c == 44)
 case true =>
  go_enter Tryz.func47, Tryz.ntmps47
  go_wp2
  go_ret
  exact ⟨by rw [show markB c = true by unfold markB; rw [h40, h41, h91, h93, h123, h125, h44]; rfl]; rfl, rfl⟩
 cases h124 : (c == 124)
 case true =>
  go_enter Tryz.func47, Tryz.ntmps47
  go_wp2
  go_ret
  exact ⟨by rw [show markB c = true by unfold markB; rw [h40, h41, h91, h93, h123, h125, h44, h124]; rfl]; rfl, rfl⟩
 go_enter Tryz.func47, Tryz.ntmps47
 go_wp2
 go_ret
 exact ⟨by rw [show markB c = false by unfold markB; rw [h40, h41, h91, h93, h123, h125, h44, h124]; rfl]; rfl, rfl⟩
set_option maxHeartbeats 1000000 in
theorem sign_any (c : Int) (w : World) : Calls Tryz.prog 46 #[.int .u8 c] w fun e w' => e = .returned (.bool (signB c)) ∧ w = w' := by
 go_enter Tryz.func46, Tryz.ntmps46
 have hb : ∀ (i : Nat) (h : i < ({ data := #[43, 45, 42, 47, 92, 94, 60, 62, 61, 58, 46, 63, 64, 35, 36, 38, 126] } : ByteArray).size), (({ data := #[43, 45, 42, 47, 92, 94, 60, 62, 61, 58, 46, 63, 64, 35, 36, 38, 126] } : ByteArray)[i]'h).toNat = bn slit i := fun i h => bn_eq _ i h
 have hl : ({ data := #[43, 45, 42, 47, 92, 94, 60, 62, 61, 58, 46, 63, 64, 35, 36, 38, 126] } : ByteArray).size = 17 := rfl
 go_wp2
 go_loopw [4] (fun iv wr => ∃ i : Nat, i ≤ 17 ∧ iv = .int .i64 (i : Int) ∧ (∀ j, j < i → ¬ (bn slit j : Int) = c) ∧ w = wr) (fun iv _ => 17 - (intOf iv).toNat)
 case atStart => exact ⟨0, by omega, rfl, fun j hj => absurd hj (by omega), rfl⟩
 case round =>
  obtain ⟨i, hi, rfl, hn, rfl⟩ := hrel
  have HN := Lib.hid hn
  clear hn
  by_cases h7 : i < 17
  ·have h7' : (i : Int) < 17 := by omega
   by_cases he : (bn slit i : Int) = c
   ·have he' : ((bn slit i : Int) == c) = true := by simpa using he
    go_wp2
    go_ret
    refine ⟨?_, rfl⟩
    have : signB c = true := by simp only [signB, List.any_eq_true, List.mem_range]; exact ⟨i, h7, by simpa using he⟩
    exact congrArg (fun b => Ending.returned (Value.bool b)) this.symm
   ·have he' : ((bn slit i : Int) == c) = false := by simpa using he
    go_wp2
    go_roundw
    case rel => exact ⟨i + 1, by omega, by go_num, fun j hj => (by rcases (by omega : j < i ∨ j = i) with h | rfl; exact HN.out j h; exact he), by trivial⟩
    case measure => simp [intOf]; omega
  ·obtain rfl : i = 17 := by omega
   go_wp2
   go_ret
   refine ⟨?_, rfl⟩
   have : signB c = false := by
    rw [Bool.eq_false_iff]
    intro h
    simp only [signB, List.any_eq_true, List.mem_range] at h
    obtain ⟨j, hj, h⟩ := h
    exact HN.out j hj (by simpa using h)
   exact congrArg (fun b => Ending.returned (Value.bool b)) this.symm
theorem two_any (s : ByteArray) (i : Nat) (a b : Int) (w : World) (hi : i ≤ 100000) : Calls Tryz.prog 66 #[.string s, .int .i64 i, .int .u8 a, .int .u8 b] w fun e w' => e = .returned (.bool (twoB s i a b)) ∧ w = w' := by
 have hb : ∀ (i : Nat) (h : i < s.size), (s[i]'h).toNat = bn s i := bn_eq s
 by_cases h1 : i + 1 < s.size
 ·have h0 : i < s.size := by omega
  have h1' : (i : Int) + 1 < (s.size : Int) := by omega
  have h2 : ((i : Int) + 1).toNat = i + 1 := by omega
  cases h3 : ((bn s i : Int) == a)
  case false =>
   go_enter Tryz.func66, Tryz.ntmps66
   go_wp2
   go_ret
   exact ⟨by rw [show twoB s i a b = false by unfold twoB; rw [h3, Bool.and_false, Bool.false_and]]; rfl, rfl⟩
  obtain ⟨v4, h4⟩ : ∃ v, ((bn s (i + 1) : Int) == b) = v := ⟨_, rfl⟩
  have e : twoB s i a b = v4 := by unfold twoB; rw [h3, h4, decide_eq_true h1]; rfl
  rw [e]
  clear e
  cases v4
  all_goals
   go_enter Tryz.func66, Tryz.ntmps66
   go_wp2
   go_ret
   exact ⟨rfl, rfl⟩
 ·have h1' : ¬ (i : Int) + 1 < (s.size : Int) := by omega
  have e : twoB s i a b = false := by simp only [twoB, decide_eq_false h1, Bool.false_and]
  go_enter Tryz.func66, Tryz.ntmps66
  go_wp2
  go_ret
  exact ⟨by first | rfl | (rw [e]; rfl), rfl⟩
theorem run_any (s : ByteArray) (i : Nat) (k : Int) (w : World) (hk : k = 1 ∨ k = 2 ∨ k = 3) (hi : i ≤ s.size) (hs : s.size ≤ 100000) : Calls Tryz.prog 43 #[.string s, .int .i64 i, .int .i64 k] w fun e w' =>
 e = .returned (.int .i64 (runN k s i : Int)) ∧ w = w' := by
 have hb : ∀ (i : Nat) (h : i < s.size), (s[i]'h).toNat = bn s i := bn_eq s
 rcases hk with rfl | rfl | rfl
 ·go_enter Tryz.func43, Tryz.ntmps43
  go_wp2
  go_loopw [1] (fun iv wr => ∃ j : Nat, i ≤ j ∧ j ≤ s.size ∧ Hid (runN 1 s i = runN 1 s j) ∧ iv = .int .i64 (j : Int) ∧ w = wr) (fun iv _ => s.size - (intOf iv).toNat)
  case atStart => exact ⟨i, by omega, hi, Lib.hid rfl, rfl, rfl⟩
  case round =>
   obtain ⟨j, hij, hj, hr, rfl, rfl⟩ := hrel
   by_cases h7 : j < s.size
   ·have h7' : (j : Int) < (s.size : Int) := by omega
    cases hn : namedB (bn s j) with
    | true =>
     go_wp2_with (go_at_call 67; refine (named_any (bn s j) _).mono ?_; rintro e w1 ⟨rfl, rfl⟩)
     go_roundw
     case rel => exact ⟨j + 1, by omega, by omega, Lib.hid (hr.out.trans (runN_step h7 (by simp [kindB, hn]))), by go_num, by trivial⟩
     case measure => simp [intOf]; omega
    | false =>
     have he := Lib.hid (hr.out.trans (runN_stop (k := 1) (by simp [kindB, hn])))
     go_wp2_with (go_at_call 67; refine (named_any (bn s j) _).mono ?_; rintro e w1 ⟨rfl, rfl⟩)
     go_ret
     exact ⟨by rw [he.out]; rfl, rfl⟩
   ·obtain rfl : j = s.size := by omega
    have he := Lib.hid (hr.out.trans (runN_end (k := 1) (Nat.le_refl _)))
    go_wp2
    go_ret
    exact ⟨by rw [he.out]; rfl, rfl⟩
 ·go_enter Tryz.func43, Tryz.ntmps43
  go_wp2
  go_loopw [1] (fun iv wr => ∃ j : Nat, i ≤ j ∧ j ≤ s.size ∧ Hid (runN 2 s i = runN 2 s j) ∧ iv = .int .i64 (j : Int) ∧ w = wr) (fun iv _ => s.size - (intOf iv).toNat)
  case atStart => exact ⟨i, by omega, hi, Lib.hid rfl, rfl, rfl⟩
  case round =>
   obtain ⟨j, hij, hj, hr, rfl, rfl⟩ := hrel
   by_cases h7 : j < s.size
   ·have h7' : (j : Int) < (s.size : Int) := by omega
    cases hn : digitB (bn s j) with
    | true =>
     go_wp2_with (go_at_call 45; refine (digit_any (bn s j) _).mono ?_; rintro e w1 ⟨rfl, rfl⟩)
     go_roundw
     case rel => exact ⟨j + 1, by omega, by omega, Lib.hid (hr.out.trans (runN_step h7 (by simp [kindB, hn]))), by go_num, by trivial⟩
     case measure => simp [intOf]; omega
    | false =>
     have he := Lib.hid (hr.out.trans (runN_stop (k := 2) (by simp [kindB, hn])))
     go_wp2_with (go_at_call 45; refine (digit_any (bn s j) _).mono ?_; rintro e w1 ⟨rfl, rfl⟩)
     go_ret
     exact ⟨by rw [he.out]; rfl, rfl⟩
   ·obtain rfl : j = s.size := by omega
    have he := Lib.hid (hr.out.trans (runN_end (k := 2) (Nat.le_refl _)))
    go_wp2
    go_ret
    exact ⟨by rw [he.out]; rfl, rfl⟩
 ·go_enter Tryz.func43, Tryz.ntmps43
  go_wp2
  go_loopw [1] (fun iv wr => ∃ j : Nat, i ≤ j ∧ j ≤ s.size ∧ Hid (runN 3 s i = runN 3 s j) ∧ iv = .int .i64 (j : Int) ∧ w = wr) (fun iv _ => s.size - (intOf iv).toNat)
  case atStart => exact ⟨i, by omega, hi, Lib.hid rfl, rfl, rfl⟩
  case round =>
   obtain ⟨j, hij, hj, hr, rfl, rfl⟩ := hrel
   by_cases h7 : j < s.size
   ·have h7' : (j : Int) < (s.size : Int) := by omega
    cases hn : signB (bn s j) with
    | true =>
     go_wp2_with (go_at_call 46; refine (sign_any (bn s j) _).mono ?_; rintro e w1 ⟨rfl, rfl⟩)
     go_roundw
     case rel => exact ⟨j + 1, by omega, by omega, Lib.hid (hr.out.trans (runN_step h7 (by simp [kindB, hn]))), by go_num, by trivial⟩
     case measure => simp [intOf]; omega
    | false =>
     have he := Lib.hid (hr.out.trans (runN_stop (k := 3) (by simp [kindB, hn])))
     go_wp2_with (go_at_call 46; refine (sign_any (bn s j) _).mono ?_; rintro e w1 ⟨rfl, rfl⟩)
     go_ret
     exact ⟨by rw [he.out]; rfl, rfl⟩
   ·obtain rfl : j = s.size := by omega
    have he := Lib.hid (hr.out.trans (runN_end (k := 3) (Nat.le_refl _)))
    go_wp2
    go_ret
    exact ⟨by rw [he.out]; rfl, rfl⟩
end Go.Proofs.YtibcpdmeigdgpaaGreatDoor
