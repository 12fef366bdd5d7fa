/- The reference's parser: atom, cmp, two, one. -/
import Derived.Test.YtlogcealmiokkaaGreatDoorKGc
namespace Go.Proofs.YtlogcealmiokkaaGreatDoor
open Go.RowKit
theorem Tryz.info_term : (Tryz.prog.info? 31).map (fun i => (i.zero, i.size, i.bytes)) = some (some (.agg #[.int .i64 0, .int .i64 0, .string ⟨#[]⟩, .slice none 0 0]), 4, 56) := by kernel_rfl
theorem elTerm : El Tryz.prog 29 31 (.agg #[.int .i64 0, .int .i64 0, .string ⟨#[]⟩, .slice none 0 0]) 4 56 := by
 obtain ⟨i0, hi, hz0, hz1, hz2⟩ := info_parts Tryz.info_term
 exact ⟨Tryz.underlying29, ⟨i0, hi, hz0, hz1, hz2⟩, rfl, by omega⟩
def Cells4 (w : World) (S : Nat → Prop) (cs : Array Value) (n : Nat) (ts : Nat → T) : Prop :=
 ∀ i, i < n → ∃ v0 v1 v2 v3, cs[4 * i]? = some v0 ∧ cs[4 * i + 1]? = some v1 ∧ cs[4 * i + 2]? = some v2 ∧ cs[4 * i + 3]? = some v3 ∧ TP w S (ts i) (.agg #[v0, v1, v2, v3])
theorem one_cells {w : World} {S : Nat → Prop} {t : T} {v0 v1 v2 v3 : Value} (h : TP w S t (.agg #[v0, v1, v2, v3])) : v0.oneCell' = true ∧ v1.oneCell' = true ∧ v2.oneCell' = true ∧ v3.oneCell' = true := by
 obtain ⟨k, n, s, A, m, c, he⟩ := h.agg
 injection he with he
 simp only [Array.mk.injEq, List.cons.injEq, and_true] at he
 obtain ⟨rfl, rfl, rfl, rfl⟩ := he
 exact ⟨rfl, rfl, rfl, rfl⟩
theorem Cells4.get {w : World} {S : Nat → Prop} {cs : Array Value} {n : Nat} {ts : Nat → T} (h : Cells4 w S cs n ts) (j : Nat) (hj : j < n * 4) : ∃ u, cs[j]? = some u ∧ u.oneCell' = true := by
 obtain ⟨v0, v1, v2, v3, h0, h1, h2, h3, ht⟩ := h (j / 4) (by omega)
 obtain ⟨o0, o1, o2, o3⟩ := one_cells ht
 rcases (by omega : j = 4 * (j / 4) ∨ j = 4 * (j / 4) + 1 ∨ j = 4 * (j / 4) + 2 ∨ j = 4 * (j / 4) + 3) with e | e | e | e
 ·exact ⟨v0, by rw [e]; exact h0, o0⟩
 ·exact ⟨v1, by rw [e]; exact h1, o1⟩
 ·exact ⟨v2, by rw [e]; exact h2, o2⟩
 ·exact ⟨v3, by rw [e]; exact h3, o3⟩
theorem Cells4.size {w : World} {S : Nat → Prop} {cs : Array Value} {n : Nat} {ts : Nat → T} (h : Cells4 w S cs n ts) : n * 4 ≤ cs.size := by
 rcases Nat.eq_zero_or_pos n with h0 | h0
 ·omega
 ·obtain ⟨u, hu, _⟩ := h.get (n * 4 - 1) (by omega)
  have := (Array.getElem?_eq_some_iff.1 hu).1
  omega
theorem box_put4 {w : World} {g : Nat} {t : TypeId} {m : Nat × Nat} {u0 u1 u2 u3 : Value} (h : w.heap[g]? = some (.cells #[u0, u1, u2, u3] t m)) (a b c d : Value) {W : World}
 (hW : (((w.setCell ⟨g, 0, none⟩ a).setCell ⟨g, 1, none⟩ b).setCell ⟨g, 2, none⟩ c).setCell ⟨g, 3, none⟩ d = W) :
 W.heap[g]? = some (.cells #[a, b, c, d] t m) ∧ W.heap.size = w.heap.size ∧ (∀ k, k ≠ g → W.heap[k]? = w.heap[k]?) ∧ ∀ B w0, B ≤ g → Below B w0 w → Below B w0 W := by
 subst hW
 refine ⟨by simpa using blk_set (blk_set (blk_set (blk_set h 0 a) 1 b) 2 c) 3 d, by simp, fun k hk => ?_, fun B w0 hB hw => (((hw.setCell hB a).setCell hB b).setCell hB c).setCell hB d⟩
 rw [Below.heap_setCell _ _ _ k hk, Below.heap_setCell _ _ _ k hk, Below.heap_setCell _ _ _ k hk, Below.heap_setCell _ _ _ k hk]
set_option maxRecDepth 100000 in
set_option maxHeartbeats 1000000 in
theorem cmp_tp (nm : ByteArray) (S : Nat → Prop) (g n c : Nat) (cs : Array Value) (f : Nat × Nat) (ts : Nat → T) (w : World) (hn : 0 < n) (hn' : n ≤ 2000) (hc : n ≤ c) (hg : w.heap[g]? = some (.cells cs 31 f)) (hcs : Cells4 w S cs n ts) :
 Calls Tryz.prog 66 #[.string nm, .slice (some ⟨g, 0, none⟩) n c] w fun e w' => (∃ v, e = .returned v ∧ TP w' (fun b => S b ∨ w.heap.size ≤ b) (.mk 4 0 nm n ts) v) ∧ Below w.heap.size w w' := by
 have hsz := hcs.size
 have hgw := heap_lt hg
 have HC := Lib.hid hcs
 have HG := Lib.hid hg
 clear hcs hg
 go_enter Tryz.func66, Tryz.ntmps66
 have hbox0 := Lib.hid ((Below.heap_alloc (w.alloc (Obj.cells #[.int .i64 0, .int .i64 0, .string ⟨#[]⟩, .slice none 0 0] 31)) (Obj.cells #[] 31) w.heap.size (by simp)).trans (heap_alloc_new w _))
 have B0 := Lib.hid (((Below.refl w.heap.size w).alloc (Nat.le_refl _) (Obj.cells #[.int .i64 0, .int .i64 0, .string ⟨#[]⟩, .slice none 0 0] 31)).alloc (by simp) (Obj.cells #[] 31))
 have hown := Lib.hid (ownsRow_empty ((w.alloc (Obj.cells #[.int .i64 0, .int .i64 0, .string ⟨#[]⟩, .slice none 0 0] 31)).alloc (Obj.cells #[] 31)) 31 4 (w.heap.size + 1) ((congrArg _ (by simp)).trans (heap_alloc_new _ _)))
 have HGW := Lib.hid ((Below.heap_alloc (w.alloc (Obj.cells #[.int .i64 0, .int .i64 0, .string ⟨#[]⟩, .slice none 0 0] 31)) (Obj.cells #[] 31) g (by simp <;> omega)).trans ((Below.heap_alloc w _ g hgw).trans HG.out))
 go_wp2_with (at_builtin; go_must (refine wpList_append_cells _ rfl _ _ _ rfl elTerm (w.heap.size + 1) _ _ _ rfl hown.out (some ⟨g, 0, none⟩) n c (cs.toList.take (n * 4)) rfl (fun h => by cases h) hc (by simp <;> omega) (fun _ => ⟨g, 0, rfl, fun j u hu => ?_⟩) ?_ (by omega) (by unfold maxLen; omega) (by simp) ?_))
 ·rw [Nat.zero_add, cell_of_row _ g j _ _ _ HGW.out]
  rw [List.getElem?_take] at hu
  split at hu
  ·rw [← Array.getElem?_toList]; exact hu
  ·cases hu
 ·intro u hu
  obtain ⟨j, hj, he⟩ := List.getElem_of_mem hu
  have hj2 : j < n * 4 := by have := hj; simp at this; omega
  obtain ⟨u', h1, h2⟩ := HC.out.get j hj2
  rw [List.getElem_take, Array.getElem_toList] at he
  rw [Array.getElem?_eq_getElem (by omega), he] at h1
  injection h1 with h1
  subst h1
  exact h2
 intro v1 w1 hown1 hg1
 obtain ⟨A, cc, rfl, hcc, hA, _, hx⟩ := own_open hown1
 obtain ⟨b, cur, rfl, hb, hhb, hcur⟩ := hx (by omega)
 have hbx := Lib.hid ((hg1.block w.heap.size (by simp <;> omega) (by simp [Value.ownBlock])).trans hbox0.out)
 have xf : ∀ j, w1.frozen? ⟨w.heap.size, j, none⟩ = false := fun j => by simp [World.frozen?, hbx.out]
 obtain ⟨x0, x1, x2, x3⟩ := box4t hbx.out
 have B1 := Lib.hid (B0.out.grown hg1 (by simp <;> omega) (by simp [Value.ownBlock]))
 clear hown1 hg1 hx hA
 go_wp2_with fail
 have P := box_put4 hbx.out (.int .i64 4) (.int .i64 0) (.string nm) (.slice (some ⟨b, 0, none⟩) n cc) rfl
 obtain ⟨p0, p1, p2, p3⟩ := box4t P.1
 have hbne : b ≠ w.heap.size := by omega
 refine bodyPost_ret (v := .agg #[.int .i64 4, .int .i64 0, .string nm, .slice (some ⟨b, 0, none⟩) n cc]) (by simp [results, go_sem, p0, p1, p2, p3]) rfl ?_
 have B2 := P.2.2.2 w.heap.size w (Nat.le_refl _) B1.out
 refine ⟨⟨_, rfl, _, cc, rfl, hcc, (fun h => by cases h), fun _ => ⟨b, cur, (0, 0), rfl, .inr (by omega), (P.2.2.1 b hbne).trans hhb, fun i hi => ?_⟩⟩, B2⟩
 obtain ⟨v0, v1, v2, v3, h0, h1, h2, h3, ht⟩ := HC.out i hi
 have key : ∀ j, j < n * 4 → cur[j]? = cs[j]? := fun j hj => by
  rw [hcur j hj, List.getElem?_take, if_pos hj, Array.getElem?_toList]
 refine ⟨v0, v1, v2, v3, (key _ (by omega)).trans h0, (key _ (by omega)).trans h1, (key _ (by omega)).trans h2, (key _ (by omega)).trans h3, ht.keep fun b' cs' f' hS hb' => ⟨?_, .inl hS⟩⟩
 exact (B2.block b' (heap_lt hb')).trans hb'
theorem tp_put {w : World} {g : Nat} {ty : TypeId} {m : Nat × Nat} {u0 u1 u2 u3 : Value} (h : w.heap[g]? = some (.cells #[u0, u1, u2, u3] ty m)) (a b c d : Value) {S : Nat → Prop} {t : T} {v : Value} (ht : TP w S t v) (hne : ∀ b, S b → b ≠ g) :
 TP ((((w.setCell ⟨g, 0, none⟩ a).setCell ⟨g, 1, none⟩ b).setCell ⟨g, 2, none⟩ c).setCell ⟨g, 3, none⟩ d) S t v :=
 ht.keep fun b' _ _ hS hb => ⟨((box_put4 h a b c d rfl).2.2.1 b' (hne b' hS)).trans hb, hS⟩
theorem TP.old {w : World} {S : Nat → Prop} {t : T} {v : Value} (h : TP w S t v) : TP w (fun b => S b ∧ b < w.heap.size) t v := h.keep fun _ _ _ hS hb => ⟨hb, hS, heap_lt hb⟩
theorem TP.below {w w' : World} {S : Nat → Prop} {t : T} {v : Value} (h : TP w S t v) (hb : Below w.heap.size w w') : TP w' S t v := h.keep fun b _ _ hS hh => ⟨(hb.block b (heap_lt hh)).trans hh, hS⟩
theorem atom_any (nm : ByteArray) (w : World) : Calls Tryz.prog 63 #[.string nm] w fun e w' => e = .returned (.agg #[.int .i64 3, .int .i64 0, .string nm, .slice none 0 0]) ∧ Below w.heap.size w w' := by
 go_enter Tryz.func63, Tryz.ntmps63
 go_wp2_with fail
 refine bodyPost_ret (v := .agg #[.int .i64 3, .int .i64 0, .string nm, .slice none 0 0]) (by simp [results, go_sem]) rfl ?_
 exact ⟨rfl, (Below.refl _ _).alloc (Nat.le_refl _) _⟩
set_option maxRecDepth 100000 in
set_option maxHeartbeats 1000000 in
theorem one_tp (nm : ByteArray) (S : Nat → Prop) (t : T) (v : Value) (w : World) (h : TP w S t v) :
 Calls Tryz.prog 64 #[.string nm, v] w fun e w' => (∃ v, e = .returned v ∧ TP w' (fun b => S b ∨ w.heap.size ≤ b) (.mk 4 0 nm 1 fun _ => t) v) ∧ Below w.heap.size w w' := by
 obtain ⟨k, n, s, A, m, cc, rfl⟩ := h.agg
 have ht := h
 have HT := Lib.hid ht
 clear ht h
 go_enter Tryz.func64, Tryz.ntmps64
 have B3 := Lib.hid ((((Below.refl w.heap.size w).alloc (Nat.le_refl _) (.cells #[Value.int .i64 k, .int .i64 n, .string s, .slice A m cc] 31)).alloc (by simp) (.cells #[.int .i64 0, .int .i64 0, .string ⟨#[]⟩, .slice none 0 0] 31)).alloc (by simp <;> omega) (.cells #[Value.int .i64 k, .int .i64 n, .string s, .slice A m cc] 31))
 have HT3 := Lib.hid (HT.out.old.below B3.out)
 go_wp2_with fail
 refine (cmp_tp nm (fun b => S b ∧ b < w.heap.size) (w.heap.size + 1 + 1) 1 1 #[Value.int .i64 k, .int .i64 n, .string s, .slice A m cc] (0, 0) (fun _ => t) _ (by omega) (by omega) (Nat.le_refl _) ((congrArg _ (by simp)).trans (heap_alloc_new _ _)) (fun i hi => ?_)).mono ?_
 ·obtain rfl : i = 0 := by omega
  exact ⟨_, _, _, _, rfl, rfl, rfl, rfl, HT3.out⟩
 rintro e w1 ⟨⟨v1, rfl, hv1⟩, h1⟩
 have hv := hv1
 obtain ⟨A1, c1, rfl, _⟩ := hv1
 have HV := Lib.hid hv
 have hbx := Lib.hid ((h1.block (w.heap.size + 1) (by simp <;> omega)).trans ((Below.heap_alloc _ _ _ (by simp <;> omega)).trans ((congrArg _ (by simp)).trans (heap_alloc_new (w.alloc (.cells #[Value.int .i64 k, .int .i64 n, .string s, .slice A m cc] 31)) (.cells #[.int .i64 0, .int .i64 0, .string ⟨#[]⟩, .slice none 0 0] 31)))))
 have B4 := Lib.hid (B3.out.trans (h1.mono (by simp <;> omega)))
 have xf : ∀ j, w1.frozen? ⟨w.heap.size + 1, j, none⟩ = false := fun j => by simp [World.frozen?, hbx.out]
 obtain ⟨x0, x1, x2, x3⟩ := box4t hbx.out
 clear hv h1
 go_wp2_with fail
 have P := box_put4 hbx.out (.int .i64 4) (.int .i64 0) (.string nm) (.slice A1 1 c1) rfl
 obtain ⟨p0, p1, p2, p3⟩ := box4t P.1
 refine bodyPost_ret (v := .agg #[.int .i64 4, .int .i64 0, .string nm, .slice A1 1 c1]) (by simp [results, go_sem, p0, p1, p2, p3]) rfl ?_
 refine ⟨⟨_, rfl, (tp_put hbx.out _ _ _ _ HV.out fun b hb => ?_).more fun b hb => ?_⟩, P.2.2.2 _ _ (by omega) B4.out⟩
 ·rcases hb with hb | hb
  ·omega
  ·simp at hb; omega
 ·rcases hb with hb | hb
  ·exact .inl hb.1
  ·simp at hb; exact .inr (by omega)
set_option maxRecDepth 100000 in
set_option maxHeartbeats 1000000 in
theorem two_tp (nm : ByteArray) (S : Nat → Prop) (t t' : T) (v v' : Value) (w : World) (h : TP w S t v) (h' : TP w S t' v') :
 Calls Tryz.prog 45 #[.string nm, v, v'] w fun e w' => (∃ v, e = .returned v ∧ TP w' (fun b => S b ∨ w.heap.size ≤ b) (.mk 4 0 nm 2 fun i => if i = 0 then t else t') v) ∧ Below w.heap.size w w' := by
 obtain ⟨k, n, s, A, m, cc, rfl⟩ := h.agg
 have ht := h
 obtain ⟨k', n', s', A', m', cc', rfl⟩ := h'.agg
 have ht' := h'
 have HT := Lib.hid ht
 have HT' := Lib.hid ht'
 clear ht h ht' h'
 go_enter Tryz.func45, Tryz.ntmps45
 have B3 := Lib.hid (((((Below.refl w.heap.size w).alloc (Nat.le_refl _) (.cells #[Value.int .i64 k, .int .i64 n, .string s, .slice A m cc] 31)).alloc (by simp) (.cells #[Value.int .i64 k', .int .i64 n', .string s', .slice A' m' cc'] 31)).alloc (by simp <;> omega) (.cells #[.int .i64 0, .int .i64 0, .string ⟨#[]⟩, .slice none 0 0] 31)).alloc (by simp <;> omega) (.cells #[Value.int .i64 k, .int .i64 n, .string s, .slice A m cc, .int .i64 k', .int .i64 n', .string s', .slice A' m' cc'] 31))
 have HT3 := Lib.hid (HT.out.old.below B3.out)
 have HT3' := Lib.hid (HT'.out.old.below B3.out)
 go_wp2_with fail
 refine (cmp_tp nm (fun b => S b ∧ b < w.heap.size) (w.heap.size + 1 + 1 + 1) 2 2 #[Value.int .i64 k, .int .i64 n, .string s, .slice A m cc, .int .i64 k', .int .i64 n', .string s', .slice A' m' cc'] (0, 0) (fun i => if i = 0 then t else t') _ (by omega) (by omega) (Nat.le_refl _) ((congrArg _ (by simp)).trans (heap_alloc_new _ _)) (fun i hi => ?_)).mono ?_
 ·rcases (by omega : i = 0 ∨ i = 1) with rfl | rfl
  ·exact ⟨_, _, _, _, rfl, rfl, rfl, rfl, HT3.out⟩
  ·exact ⟨_, _, _, _, rfl, rfl, rfl, rfl, HT3'.out⟩
 rintro e w1 ⟨⟨v1, rfl, hv1⟩, h1⟩
 have hv := hv1
 obtain ⟨A1, c1, rfl, _⟩ := hv1
 have HV := Lib.hid hv
 have hbx := Lib.hid ((h1.block (w.heap.size + 1 + 1) (by simp <;> omega)).trans ((Below.heap_alloc _ _ _ (by simp <;> omega)).trans ((congrArg _ (by simp)).trans (heap_alloc_new ((w.alloc (.cells #[Value.int .i64 k, .int .i64 n, .string s, .slice A m cc] 31)).alloc (.cells #[Value.int .i64 k', .int .i64 n', .string s', .slice A' m' cc'] 31)) (.cells #[.int .i64 0, .int .i64 0, .string ⟨#[]⟩, .slice none 0 0] 31)))))
 have B4 := Lib.hid (B3.out.trans (h1.mono (by simp <;> omega)))
 have xf : ∀ j, w1.frozen? ⟨w.heap.size + 1 + 1, j, none⟩ = false := fun j => by simp [World.frozen?, hbx.out]
 obtain ⟨x0, x1, x2, x3⟩ := box4t hbx.out
 clear hv h1
 go_wp2_with fail
 have P := box_put4 hbx.out (.int .i64 4) (.int .i64 0) (.string nm) (.slice A1 2 c1) rfl
 obtain ⟨p0, p1, p2, p3⟩ := box4t P.1
 refine bodyPost_ret (v := .agg #[.int .i64 4, .int .i64 0, .string nm, .slice A1 2 c1]) (by simp [results, go_sem, p0, p1, p2, p3]) rfl ?_
 refine ⟨⟨_, rfl, (tp_put hbx.out _ _ _ _ HV.out fun b hb => ?_).more fun b hb => ?_⟩, P.2.2.2 _ _ (by omega) B4.out⟩
 ·rcases hb with hb | hb
  ·omega
  ·simp at hb; omega
 ·rcases hb with hb | hb
  ·exact .inl hb.1
  ·simp at hb; exact .inr (by omega)
end Go.Proofs.YtlogcealmiokkaaGreatDoor
