/- The program's parser: peek, take, fail, mark, must. -/
import Derived.Test.YtlogcealmiokkaaGreatDoorKRq1
import Derived.Test.YtlogcealmiokkaaGreatDoorKRd6
import Derived.Deep.DeepMust
import Derived.WalkLawsBesides
namespace Go.Proofs.YtlogcealmiokkaaGreatDoor
open Go.RowKit
set_option maxRecDepth 100000 in
set_option maxHeartbeats 1000000 in
theorem ppeek_any {c : Rdc} {i : Nat} {ns : List ByteArray} (w : World) (h : Pd w c i ns) : Calls Tryz.prog 30 #[.pointer (some ⟨c.R, 0, none⟩)] w fun e w' => e = .returned (.agg #[.int .i64 (nx c i).k, .string (nx c i).t, .int .i64 ((nx c i).a : Int), .int .i64 ((nx c i).b : Int)]) ∧ Below w.heap.size w w' := by
 have hlt := h.lt
 obtain ⟨ht, hfi, lv, nv, nn, hr⟩ := h
 obtain ⟨A, cc, rfl, hcc, hA⟩ := hr.lok
 obtain ⟨r0, r1, r2⟩ := hr.cells
 have hup := hr.up
 have HT := Lib.hid ht
 clear hr ht
 by_cases hi : i < c.tn
 ·have hi' : ¬ (((c.tn - i : Nat) : Int) = 0) := by omega
  have hi2 : (0 : Int) < ((c.tn - i : Nat) : Int) := by omega
  obtain ⟨g, hTA, t0, t1, t2, t3⟩ := tok_cells HT.out hi
  obtain rfl := hA hi g hTA
  have hg := World.block_lt_of_cell? w _ t0
  dsimp only at hg
  go_enter Tryz.func30, Tryz.ntmps30
  go_wp2_with fail
  refine bodyPost_ret (v := (.agg #[.int .i64 (nx c i).k, .string (nx c i).t, .int .i64 ((nx c i).a : Int), .int .i64 ((nx c i).b : Int)])) (by simp [results, go_sem]) rfl ?_
  exact ⟨rfl, (Below.refl _ _).alloc (Nat.le_refl _) _⟩
 ·have hi' : (c.tn - i : Nat) = 0 := by omega
  have hx : nx c i = ⟨0, ⟨#[]⟩, c.s.size, 0⟩ := by
   have hl := HT.out.len
   simp [nx, nxT, show ¬ i < c.tk.length by omega]
  go_enter Tryz.func30, Tryz.ntmps30
  go_wp2_with fail
  refine bodyPost_ret (v := (.agg #[.int .i64 (nx c i).k, .string (nx c i).t, .int .i64 ((nx c i).a : Int), .int .i64 ((nx c i).b : Int)])) (by simp [results, go_sem, hx]) rfl ?_
  exact ⟨rfl, (Below.refl _ _).alloc (Nat.le_refl _) _⟩
theorem Pd.set_at {w : World} {c : Rdc} {j : Nat} {ns : List ByteArray} (h : Pd w c j ns) {b : Nat} {cs : Array Value} {t : TypeId} {m : Nat × Nat} (hb : w.heap[b]? = some (.cells cs t m)) (i : Nat) (u : Value)
 (h1 : t ≠ 9) (h2 : b ≠ c.R) (h3 : ∀ g, c.TA = some ⟨g, 0, none⟩ → b ≠ g) : Pd (w.setCell ⟨b, i, none⟩ u) c j ns := by
 obtain ⟨ht, hf, lv, nv, nn, hr⟩ := h
 refine ⟨⟨ht.len, ht.few, ht.long, ht.ok, ht.cap, ht.nil, ht.BR, ht.nm, fun h0 => ?_⟩, hf, lv, nv, nn, (Below.heap_setCell _ _ _ _ fun e => h2 e.symm).trans hr.blk, hr.lok, own_keep hr.own fun g hg => ?_, hr.up, hr.few⟩
 ·obtain ⟨g, cur, hA, hg, hc⟩ := ht.blk h0
  exact ⟨g, cur, hA, (Below.heap_setCell _ _ _ _ fun e => h3 g hA e.symm).trans hg, hc⟩
 ·refine Below.heap_setCell _ _ _ _ ?_
  rintro rfl
  rcases hr.own.2 with ⟨hv, _⟩ | ⟨g', cap, cur, hv, _, hh, _⟩
  ·rw [hv] at hg; simp [Value.ownBlock] at hg
  ·rw [hv] at hg
   simp [Value.ownBlock] at hg
   subst hg
   rw [show w.heap[_]? = _ from hb] at hh
   injection hh with hh
   injection hh with _ hh
   exact h1 hh
theorem Pd.tok_lt {w : World} {c : Rdc} {j : Nat} {ns : List ByteArray} (h : Pd w c j ns) (h0 : 0 < c.tn) {g : Nat} (hg : c.TA = some ⟨g, 0, none⟩) : g < w.heap.size := by
 obtain ⟨g', cur, hA, hb, _⟩ := h.1.blk h0
 rw [hg] at hA
 injection hA with hA
 injection hA with hA
 rw [hA]
 exact heap_lt hb
theorem Frp.newset {c : Rdc} {w W : World} (h : Frp c w W) {b : Nat} (hb : w.heap.size ≤ b) (hB : c.B ≤ b) (i : Nat) (u : Value) : Frp c w (W.setCell ⟨b, i, none⟩ u) :=
 ⟨h.low.setCell (p := ⟨b, i, none⟩) hB u, fun k cs t m hk hR ht => (Below.heap_setCell _ _ _ _ (by have := heap_lt hk; show k ≠ b; omega)).trans (h.keep k cs t m hk hR ht)⟩
theorem Frp.newalloc {c : Rdc} {w W : World} (h : Frp c w W) (hB : c.B ≤ w.heap.size) (o : Obj) : Frp c w (W.alloc o) := h.trans (Frp.of_below ((Below.refl _ _).alloc (Nat.le_refl _) o) (Nat.le_trans hB h.size))
theorem Pd.put4 {w : World} {c : Rdc} {j : Nat} {ns : List ByteArray} (h : Pd w c j ns) {b : Nat} {u0 u1 u2 u3 : Value} {t : TypeId} {m : Nat × Nat} (hb : w.heap[b]? = some (.cells #[u0, u1, u2, u3] t m)) (v0 v1 v2 v3 : Value)
 (h1 : t ≠ 9) (h2 : b ≠ c.R) (h3 : ∀ g, c.TA = some ⟨g, 0, none⟩ → b ≠ g) : Pd ((((w.setCell ⟨b, 0, none⟩ v0).setCell ⟨b, 1, none⟩ v1).setCell ⟨b, 2, none⟩ v2).setCell ⟨b, 3, none⟩ v3) c j ns := by
 have k0 := h.set_at hb 0 v0 h1 h2 h3
 have b0 := blk_set hb 0 v0
 have k1 := k0.set_at b0 1 v1 h1 h2 h3
 have b1 := blk_set b0 1 v1
 have k2 := k1.set_at b1 2 v2 h1 h2 h3
 have b2 := blk_set b1 2 v2
 exact k2.set_at b2 3 v3 h1 h2 h3
theorem Frp.newput4 {c : Rdc} {w W : World} (h : Frp c w W) {b : Nat} (hb : w.heap.size ≤ b) (hB : c.B ≤ b) (v0 v1 v2 v3 : Value) : Frp c w ((((W.setCell ⟨b, 0, none⟩ v0).setCell ⟨b, 1, none⟩ v1).setCell ⟨b, 2, none⟩ v2).setCell ⟨b, 3, none⟩ v3) :=
 (((h.newset hb hB 0 v0).newset hb hB 1 v1).newset hb hB 2 v2).newset hb hB 3 v3
theorem TokAt.next {c : Rdc} {i : Nat} {A : Option Addr} {cc : Nat} (h : TokAt c i (.slice A (c.tn - i) cc)) (hi : i < c.tn) : TokAt c (i + 1) (.slice (if cc = 1 then A else A.map fun a => a.add 4) (c.tn - i - 1) (cc - 1)) := by
 obtain ⟨A', cc', e, hcc, hA⟩ := h
 injection e with e1 e2 e3
 subst e1 e3
 refine ⟨_, _, by rw [show c.tn - (i + 1) = c.tn - i - 1 by omega], by omega, fun hlt g hg => ?_⟩
 rw [if_neg (by omega), hA hi g hg]
 simp [Addr.add, Nat.add_mul]
set_option maxRecDepth 100000 in
set_option maxHeartbeats 1000000 in
theorem ptake_any {c : Rdc} {i : Nat} {ns : List ByteArray} (w : World) (h : Pd w c i ns) (hk : (nx c i).k ≠ 0) : Calls Tryz.prog 32 #[.pointer (some ⟨c.R, 0, none⟩)] w fun e w' => e = .returned (.agg #[.int .i64 (nx c i).k, .string (nx c i).t, .int .i64 ((nx c i).a : Int), .int .i64 ((nx c i).b : Int)]) ∧ Pd w' c (i + 1) ns ∧ Frp c w w' := by
 have hi := nx_ltp h hk
 have H := Lib.hid h
 have hB := h.base
 have hBR := h.1.BR
 clear h hk
 go_enter Tryz.func32, Tryz.ntmps32
 have H1 := Lib.hid (H.out.alloc (Obj.cells #[.int .i64 0, .string ⟨#[]⟩, .int .i64 0, .int .i64 0] 60))
 have F1 := Lib.hid (Frp.of_below ((Below.refl w.heap.size w).alloc (Nat.le_refl _) (Obj.cells #[.int .i64 0, .string ⟨#[]⟩, .int .i64 0, .int .i64 0] 60)) hB)
 have X1 := Lib.hid (heap_alloc_new w (Obj.cells #[.int .i64 0, .string ⟨#[]⟩, .int .i64 0, .int .i64 0] 60))
 go_wp2_with fail
 refine (ppeek_any _ H1.out).mono ?_
 rintro e w2 ⟨rfl, h2⟩
 have H2 := Lib.hid (H1.out.below h2)
 have F2 := Lib.hid (F1.out.trans (Frp.of_below h2 H1.out.base))
 have H3 := Lib.hid (H2.out.alloc (Obj.cells #[.int .i64 (nx c i).k, .string (nx c i).t, .int .i64 ((nx c i).a : Int), .int .i64 ((nx c i).b : Int)] 60))
 have F3 := Lib.hid (F2.out.trans (Frp.of_below ((Below.refl w2.heap.size w2).alloc (Nat.le_refl _) (Obj.cells #[.int .i64 (nx c i).k, .string (nx c i).t, .int .i64 ((nx c i).a : Int), .int .i64 ((nx c i).b : Int)] 60)) H2.out.base))
 have X2 := Lib.hid ((h2.block _ (heap_lt X1.out)).trans X1.out)
 obtain ⟨ht, hfi, lv, nv, nn, hr⟩ := H2.out
 obtain ⟨A, cc, rfl, hcc, hA⟩ := hr.lok
 obtain ⟨r0, r1, r2⟩ := hr.cells
 have rf := hr.thaw
 have hlt := H2.out.lt
 have hne : w.heap.size ≠ c.R := by have := H.out.lt; omega
 have hi2 : (0 : Int) < ((c.tn - i : Nat) : Int) := by omega
 have hi3 : 1 ≤ c.tn - i := by omega
 obtain ⟨g, hTA, _⟩ := tok_cells ht hi
 obtain rfl := hA hi g hTA
 have HN := Lib.hid (fun (W : World) (hb : Below w2.heap.size w2 W) => Pd.next (w := W) (ht.keep fun b cs h => hb.block b (heap_lt h)) hfi (show PdW W c i (.slice (some ⟨g, i * 4, none⟩) (c.tn - i) cc) nv nn ns from ⟨(hb.block _ (heap_lt hr.blk)).trans hr.blk, hr.lok, own_below hr.own hb, hr.up, hr.few⟩) hi (TokAt.next hr.lok hi))
 obtain ⟨x0, x1, x2, x3⟩ := box4t X2.out
 have hx2 := heap_lt X2.out
 have hne' : c.R ≠ w.heap.size := fun e => hne e.symm
 have xf : ∀ j, w2.frozen? ⟨w.heap.size, j, none⟩ = false := fun j => by simp [World.frozen?, X2.out]
 have HG : ∀ g, c.TA = some ⟨g, 0, none⟩ → w.heap.size ≠ g := fun g hg => by have := H.out.tok_lt (by omega) hg; omega
 clear h2 hr ht
 by_cases hc1 : cc = 1
 ·have hc1' : (cc == 1) = true := by simpa using hc1
  subst hc1
  have Q1 := Lib.hid (show Pd (w2.setCell ⟨c.R, 1, none⟩ (.slice (some ⟨g, i * 4, none⟩) 0 0)) c (i + 1) ns from by
   have h := HN.out w2 (Below.refl _ _)
   rw [if_pos rfl, show c.tn - i - 1 = 0 by omega] at h
   exact h)
  have XB := Lib.hid ((Below.heap_setCell w2 ⟨c.R, 1, none⟩ (.slice (some ⟨g, i * 4, none⟩) 0 0) w.heap.size hne).trans X2.out)
  have Q2 := Lib.hid (Q1.out.put4 XB.out (.int .i64 (nx c i).k) (.string (nx c i).t) (.int .i64 ((nx c i).a : Int)) (.int .i64 ((nx c i).b : Int)) (by decide) hne HG)
  have G2 := Lib.hid ((F2.out.trans (Frp.setR hBR 1 (.slice (some ⟨g, i * 4, none⟩) 0 0))).newput4 (Nat.le_refl _) hB (.int .i64 (nx c i).k) (.string (nx c i).t) (.int .i64 ((nx c i).a : Int)) (.int .i64 ((nx c i).b : Int)))
  have P := box4t (box_put4 XB.out (.int .i64 (nx c i).k) (.string (nx c i).t) (.int .i64 ((nx c i).a : Int)) (.int .i64 ((nx c i).b : Int)) rfl).1
  go_wp2_with fail
  refine bodyPost_ret (v := (.agg #[.int .i64 (nx c i).k, .string (nx c i).t, .int .i64 ((nx c i).a : Int), .int .i64 ((nx c i).b : Int)])) (by simp [results, go_sem, P, hx2]) rfl ?_
  exact ⟨rfl, Q2.out.alloc _, G2.out.newalloc hB _⟩
 ·have hc1' : (cc == 1) = false := by simpa using hc1
  have Q1 := Lib.hid (show Pd (w2.setCell ⟨c.R, 1, none⟩ (.slice (some ⟨g, i * 4 + 4, none⟩) (c.tn - i - 1) (cc - 1))) c (i + 1) ns from by
   have h := HN.out w2 (Below.refl _ _)
   rw [if_neg hc1] at h
   exact h)
  have XB := Lib.hid ((Below.heap_setCell w2 ⟨c.R, 1, none⟩ (.slice (some ⟨g, i * 4 + 4, none⟩) (c.tn - i - 1) (cc - 1)) w.heap.size hne).trans X2.out)
  have Q2 := Lib.hid (Q1.out.put4 XB.out (.int .i64 (nx c i).k) (.string (nx c i).t) (.int .i64 ((nx c i).a : Int)) (.int .i64 ((nx c i).b : Int)) (by decide) hne HG)
  have G2 := Lib.hid ((F2.out.trans (Frp.setR hBR 1 (.slice (some ⟨g, i * 4 + 4, none⟩) (c.tn - i - 1) (cc - 1)))).newput4 (Nat.le_refl _) hB (.int .i64 (nx c i).k) (.string (nx c i).t) (.int .i64 ((nx c i).a : Int)) (.int .i64 ((nx c i).b : Int)))
  have P := box4t (box_put4 XB.out (.int .i64 (nx c i).k) (.string (nx c i).t) (.int .i64 ((nx c i).a : Int)) (.int .i64 ((nx c i).b : Int)) rfl).1
  go_wp2_with fail
  refine bodyPost_ret (v := (.agg #[.int .i64 (nx c i).k, .string (nx c i).t, .int .i64 ((nx c i).a : Int), .int .i64 ((nx c i).b : Int)])) (by simp [results, go_sem, P, hx2]) rfl ?_
  exact ⟨rfl, Q2.out.alloc _, G2.out.newalloc hB _⟩
set_option maxRecDepth 100000 in
set_option maxHeartbeats 1000000 in
theorem pfail_any {c : Rdc} {i : Nat} {ns : List ByteArray} (w : World) (h : Pd w c i ns) : Calls Tryz.prog 31 #[.pointer (some ⟨c.R, 0, none⟩)] w fun e w' => e = .panicked [wrongP ((nx c i).a : Int) 50] ∧ Frp c w w' := by
 have fl := fld_tok2
 have hB := h.base
 go_enter Tryz.func31, Tryz.ntmps31
 go_wp2_with fail
 refine (ppeek_any _ h).mono ?_
 rintro e w2 ⟨rfl, h2⟩
 go_wp2_with fail
 exact ⟨rfl, rfl, Frp.of_below h2 hB⟩
end Go.Proofs.YtlogcealmiokkaaGreatDoor
