/- The reference's parser: variable. -/
import Derived.Test.YtlgeepjlnjlgdaaRd6
namespace Go.Proofs.Ytlgeepjlnjlgdaa
open Go.RowKit

theorem own_ne {w : World} {B : Nat} {v : Value} {n : Nat} {xs : List Value} (h : w.ownsRow B 9 1 v n xs) {b : Nat} {cs : Array Value} {t : TypeId} {m : Nat × Nat} (hb : w.heap[b]? = some (.cells cs t m)) (ht : t ≠ 9) : some b ≠ v.ownBlock := by
  intro e
  rcases h.2 with ⟨hv, _⟩ | ⟨g, cap, cur, hv, _, hh, _⟩
  · rw [hv] at e; simp [Value.ownBlock] at e
  · rw [hv] at e
    simp [Value.ownBlock] at e
    subst e
    rw [hb] at hh
    injection hh with hh
    injection hh with _ hh
    exact ht hh
theorem Fr.grown {c : Rdc} {w w' : World} {v : Value} {n : Nat} {xs : List Value} (h : w.ownsRow c.B 9 1 v n xs) (hg : w.grownBy w' v.ownBlock) (hB : c.B ≤ w.heap.size) : Fr c w w' :=
  ⟨(Below.refl _ _).grown hg hB fun k hk => (h.lt k hk).1, fun b _ _ _ hb _ ht => (hg.block b (heap_lt hb) (own_ne h hb ht)).trans hb⟩
/-- The reader, one token on, with no more names than it stood at. -/
def RdV (w : World) (c : Rdc) (i : Nat) (er : Int) : Prop := TokW w c ∧ ∃ nv nn names place, RdW w c (i + 1) nv nn names place er ∧ nn ≤ i
theorem RdV.rd {w : World} {c : Rdc} {i : Nat} {er : Int} (h : RdV w c i er) : Rd w c (i + 1) er := by
  obtain ⟨ht, nv, nn, names, place, hr, _⟩ := h
  exact ⟨ht, nv, nn, names, place, hr⟩
theorem Rd.nextV {w : World} {c : Rdc} {at_ : Nat} {er : Int} (h : Rd w c at_ er) (hlt : at_ < c.tn) : RdV (w.setCell ⟨c.R, 2, none⟩ (.int .i64 ((at_ : Int) + 1))) c at_ er := by
  obtain ⟨ht, nv, nn, names, place, hr⟩ := h
  exact ⟨ht.setR hr _ _, nv, nn, names, place, ⟨by simpa using blk_set hr.blk 2 (.int .i64 ((at_ : Int) + 1)), own_setR hr _ _, hlt, Nat.le_succ_of_le hr.few⟩, hr.few⟩
/-- A name is added. -/
theorem Rd.named {w w1 : World} {c : Rdc} {at_ : Nat} {er : Int} {nv v1 : Value} {nn : Nat} {names names' : List ByteArray} {place : Int} (ht : TokW w c) (hr : RdW w c at_ nv nn names place er) (hn : nn + 1 ≤ at_)
    (hg : w.grownBy w1 nv.ownBlock) (hown : w1.ownsRow c.B 9 1 v1 (nn + 1) (names'.map Value.string)) : Rd (w1.setCell ⟨c.R, 3, none⟩ v1) c at_ er ∧ w1.heap[c.R]? = w.heap[c.R]? := by
  have hblk := (hg.block c.R (heap_lt hr.blk) (own_ne hr.own hr.blk (by decide))).trans hr.blk
  have ht1 : TokW w1 c := ht.keep fun b cs hb => hg.block b (heap_lt hb) (own_ne hr.own hb (by decide))
  refine ⟨⟨ht1.keep fun b cs hb => Below.heap_setCell _ _ _ _ (by
      rintro rfl
      rw [hblk] at hb
      injection hb with hb
      injection hb with _ hb
      exact absurd hb (by decide)), v1, nn + 1, names', place, by simpa using blk_set hblk 3 v1, own_keep hown fun g hg' => Below.heap_setCell _ _ _ _ (by
      rintro rfl
      exact own_ne hown hblk (by decide) hg'.symm), hr.up, hn⟩, hblk.trans hr.blk.symm⟩
theorem RdW.below {w w' : World} {c : Rdc} {at_ : Nat} {nv : Value} {nn : Nat} {names : List ByteArray} {place er : Int} (h : RdW w c at_ nv nn names place er) (hb : Below w.heap.size w w') : RdW w' c at_ nv nn names place er :=
  ⟨(hb.block _ (heap_lt h.blk)).trans h.blk, own_below h.own hb, h.up, h.few⟩
theorem TokW.below {w w' : World} {c : Rdc} (h : TokW w c) (hb : Below w.heap.size w w') : TokW w' c := h.keep fun b _ hh => hb.block b (heap_lt hh)
theorem leaf_good (n : Int) (h : 0 ≤ n) (h' : n < 1000) : (T.mk 1 n ⟨#[]⟩ 0 fun _ => .nil).good := ⟨.inl ⟨rfl, h, h', rfl, rfl⟩, fun i hi => absurd hi (by omega)⟩

set_option maxRecDepth 100000 in
set_option maxHeartbeats 2000000 in
theorem variable_any {c : Rdc} {i : Nat} {er : Int} (nm : ByteArray) (w : World) (h : RdV w c i er) :
    Calls Try.prog 78 #[.pointer (some ⟨c.R, 0, none⟩), .string nm] w fun e w' => ∃ v, e = .returned v ∧ RetT c w i (i + 1) er v w' := by
  have H := Lib.hid h
  have hlt := h.rd.lt
  have hB := h.rd.base
  have hBR := h.1.BR
  obtain ⟨ht, nv, nn, names, place, hr, hni⟩ := h
  have htn := hr.up
  have hfew := ht.few
  have HR := Lib.hid hr
  have HT := Lib.hid ht
  obtain ⟨r0, r1, r2, r3, r4, r5⟩ := hr.cells
  have rf := hr.thaw
  have hl : names.length = nn := by have := own_len hr.own; simpa using this
  obtain ⟨A, cc, rfl, hcc, hA, hcm, hx⟩ := own_open hr.own
  clear hr ht
  have HX := Lib.hid hx
  clear hx
  go_enter Try.func78, Try.ntmps78
  go_wp2_with fail
  go_loopw [5] (fun iv wr => (∃ j : Nat, iv = .int .i64 (j : Int) ∧ j ≤ nn) ∧ wr = w.alloc (Obj.cells #[.int .i64 0, .int .i64 0, .string ⟨#[]⟩, .slice none 0 0] 24)) (fun iv _ => nn - (intOf iv).toNat)
  case atStart => exact ⟨⟨0, rfl, by omega⟩, rfl⟩
  case round =>
    obtain ⟨⟨j, rfl, hj⟩, rfl⟩ := hrel
    by_cases hjn : j < nn
    · have hjn' : (j : Int) < (nn : Int) := by omega
      obtain ⟨g, cur, rfl, _, hg, hcur⟩ := HX.out (by omega)
      have hgl := heap_lt hg
      have hcell : w.cell? ⟨g, j, none⟩ = some (.string (names[j]'(by omega))) := by
        rw [cell_of_row w g j _ _ _ hg, hcur j (by omega)]
        simp [List.getElem?_eq_getElem (show j < names.length by omega)]
      clear hcur hg
      generalize names[j]'(by omega) = y at hcell
      go_wp2_with fail
      · refine bodyPost_ret (v := .agg #[.int .i64 1, .int .i64 (j : Int), .string ⟨#[]⟩, .slice none 0 0]) (by simp [results, go_sem]) rfl ?_
        exact ⟨_, rfl, i + 1, er, _, H.out.rd.alloc _, Fr.of_below ((Below.refl _ _).alloc (Nat.le_refl _) _) hB, Nat.le_refl _, TP.leaf _ _ 1 (j : Int) ⟨#[]⟩, fun h => ⟨h, leaf_good _ (by omega) (by omega), by rw [leaf_nodes]; exact Nat.le_refl _⟩⟩
      all_goals
        go_roundw
        case rel => exact ⟨⟨j + 1, by go_num, by omega⟩, by trivial⟩
        case measure => simp [intOf]; omega
    · obtain rfl : j = nn := by omega
      have hle : names.length ≤ 1000 := by omega
      have B2 := Lib.hid (((Below.refl w.heap.size w).alloc (Nat.le_refl _) (Obj.cells #[.int .i64 0, .int .i64 0, .string ⟨#[]⟩, .slice none 0 0] 24)).alloc (by simp) (Obj.cells #[.string nm] 9))
      have HR2 := Lib.hid (HR.out.below B2.out)
      have HT2 := Lib.hid (HT.out.below B2.out)
      have hbox := Lib.hid ((Below.heap_alloc (w.alloc (Obj.cells #[.int .i64 0, .int .i64 0, .string ⟨#[]⟩, .slice none 0 0] 24)) (Obj.cells #[.string nm] 9) w.heap.size (by simp)).trans (heap_alloc_new w _))
      have hnn : j + 1 ≤ i + 1 := by omega
      go_wp2_with (at_builtin; go_must (refine wpList_append_cells _ rfl _ _ _ rfl elStr c.B _ _ _ rfl HR2.out.own (some ⟨w.heap.size + 1, 0, none⟩) 1 1 [.string nm] rfl (fun h => by cases h) (Nat.le_refl _) rfl (fun _ => ⟨_, 0, rfl, ?_⟩) ?_ (by omega) (by unfold maxLen; omega) (by simp; omega) ?_))
      · intro k u hu
        match k, hu with
        | 0, hu => simp at hu; subst hu; exact (cell_of_row _ _ 0 _ _ _ ((congrArg _ (by simp)).trans (heap_alloc_new _ _)))
      · intro u hu
        simp at hu
        subst hu
        rfl
      intro v1 w1 hown1 hg1
      obtain ⟨P1, P2⟩ := Rd.named (names' := names ++ [nm]) HT2.out HR2.out hnn hg1 (by simpa using hown1)
      obtain ⟨A1, c1, rfl, _, _, _, _⟩ := own_open hown1
      have rblk := P2.trans HR2.out.blk
      have rfz : ∀ j, w1.frozen? ⟨c.R, j, none⟩ = false := fun j => by simp [World.frozen?, rblk]
      have r3' : w1.cell? ⟨c.R, 3, none⟩ = some (.slice A j cc) := cell_of_row w1 _ 3 _ _ _ rblk
      have hbx := (hg1.block w.heap.size (by simp; omega) (own_ne HR2.out.own hbox.out (by decide))).trans hbox.out
      have hne : c.R ≠ w.heap.size := by omega
      have hbx2 := Lib.hid ((Below.heap_setCell w1 ⟨c.R, 3, none⟩ (.slice A1 (j + 1) c1) w.heap.size (fun e => hne e.symm)).trans hbx)
      have F1 := Lib.hid (((Fr.of_below B2.out hB).trans (Fr.grown HR2.out.own hg1 (by simp; omega))).trans (Fr.setR hBR 3 (.slice A1 (j + 1) c1)))
      have P := Lib.hid P1
      have bf : ∀ j, w1.frozen? ⟨w.heap.size, j, none⟩ = false := fun j => by simp [World.frozen?, hbx]
      obtain ⟨x0, x1, x2, x3⟩ := box4t hbx
      clear P1 P2 hown1 hg1 rblk hbx r0 r1 r2 r3 r4 r5 rf
      go_wp2_with fail
      obtain ⟨p0, p1, p2, p3⟩ := box4t (box_put4 hbx2.out (.int .i64 1) (.int .i64 (j : Int)) (.string ⟨#[]⟩) (.slice none 0 0) rfl).1
      refine bodyPost_ret (v := .agg #[.int .i64 1, .int .i64 (j : Int), .string ⟨#[]⟩, .slice none 0 0]) (by simp [results, go_sem, p0, p1, p2, p3]) rfl ?_
      exact ⟨_, rfl, i + 1, er, _, P.out.put hbx2.out _ _ _ _, F1.out.put (Nat.le_refl _) hB hbx2.out _ _ _ _, Nat.le_refl _, TP.leaf _ _ 1 (j : Int) ⟨#[]⟩, fun h => ⟨h, leaf_good _ (by omega) (by omega), by rw [leaf_nodes]; exact Nat.le_refl _⟩⟩
end Go.Proofs.Ytlgeepjlnjlgdaa
