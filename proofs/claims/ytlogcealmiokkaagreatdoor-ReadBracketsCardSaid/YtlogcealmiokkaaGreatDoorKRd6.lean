/- The reference's parser: integer and variable. -/
import Derived.Test.YtlogcealmiokkaaGreatDoorKRd5
import Derived.Test.YtlogcealmiokkaaGreatDoorKRd4
namespace Go.Proofs.YtlogcealmiokkaaGreatDoor
open Go.RowKit
def sumTo : Nat → (Nat → Nat) → Nat
 | 0, _ => 0
 | n + 1, f => sumTo n f + f n
def T.nodes : T → Nat
 | .nil => 0
 | .mk _ _ _ m a => 1 + sumTo m fun i => (a i).nodes
def T.good : T → Prop
 | .nil => False
 | .mk k n s m a => ((k = 1 ∧ 0 ≤ n ∧ n < 1000 ∧ s = ⟨#[]⟩ ∧ m = 0) ∨ (k = 2 ∧ I64 n ∧ s = ⟨#[]⟩ ∧ m = 0) ∨ (k = 3 ∧ n = 0 ∧ nameOk s ∧ m = 0) ∨ (k = 4 ∧ n = 0 ∧ nameOk s ∧ 0 < m)) ∧ ∀ i, i < m → (a i).good
def RetT (c : Rdc) (w : World) (i0 i : Nat) (pl er : Int) (res : PR T) (v : Value) (w' : World) : Prop :=
 ∃ j er' t ns' pl', Rd w' c j ns' pl' er' ∧ Fr c w w' ∧ i ≤ j ∧ TP w' (fun b => w.heap.size ≤ b) t v ∧ (er' = 0 → er = 0 ∧ t.good ∧ i0 + t.nodes ≤ j) ∧ Hid (Sp er pl er' pl' res (t, j, ns'))
theorem leaf_nodes (k n : Int) (s : ByteArray) (a : Nat → T) : (T.mk k n s 0 a).nodes = 1 := rfl
theorem Fr.put {c : Rdc} {w0 w : World} (h : Fr c w0 w) {g : Nat} (hg : w0.heap.size ≤ g) (hB : c.B ≤ w0.heap.size) {t : TypeId} {m : Nat × Nat} {u0 u1 u2 u3 : Value} (hb : w.heap[g]? = some (.cells #[u0, u1, u2, u3] t m)) (x0 x1 x2 x3 : Value) :
 Fr c w0 ((((w.setCell ⟨g, 0, none⟩ x0).setCell ⟨g, 1, none⟩ x1).setCell ⟨g, 2, none⟩ x2).setCell ⟨g, 3, none⟩ x3) := by
 obtain ⟨_, _, p2, p3⟩ := box_put4 hb x0 x1 x2 x3 rfl
 exact ⟨p3 _ _ (by omega) h.low, fun b cs t' m' hb' hR ht => (p2 b (by have := heap_lt hb'; omega)).trans (h.keep b cs t' m' hb' hR ht)⟩
theorem Rd.put {c : Rdc} {w : World} {i : Nat} {ns : List ByteArray} {pl er : Int} (h : Rd w c i ns pl er) {g : Nat} {m : Nat × Nat} {u0 u1 u2 u3 : Value} (hb : w.heap[g]? = some (.cells #[u0, u1, u2, u3] 31 m)) (x0 x1 x2 x3 : Value) :
 Rd ((((w.setCell ⟨g, 0, none⟩ x0).setCell ⟨g, 1, none⟩ x1).setCell ⟨g, 2, none⟩ x2).setCell ⟨g, 3, none⟩ x3) c i ns pl er := by
 have h1 : Rd (w.setCell ⟨g, 0, none⟩ x0) c i ns pl er := h.set_far hb 0 x0 (by decide) (by decide) (by decide)
 have b1 := blk_set hb 0 x0
 have h2 := h1.set_far b1 1 x1 (by decide) (by decide) (by decide)
 have b2 := blk_set b1 1 x1
 have h3 := h2.set_far b2 2 x2 (by decide) (by decide) (by decide)
 have b3 := blk_set b2 2 x2
 exact h3.set_far b3 3 x3 (by decide) (by decide) (by decide)
theorem ba_eq (s : ByteArray) : ba s.data.toList = s := by apply ByteArray.ext; simp [ba]
theorem ba_data (l : List UInt8) : (ba l).data.toList = l := by simp [ba]
theorem data_bu {s : ByteArray} (h : 0 < s.size) : s.data.toList = bu s 0 :: s.data.toList.drop 1 := by
 have := drop_bu (s := s) (i := 0) h
 simpa using this
theorem zeros_step {s : ByteArray} (h1 : 1 < s.size) (h48 : bn s 0 = 48) : zerosL s.data.toList = zerosL (s.extract 1 s.size).data.toList := by
 have hc : bu s 0 = 48 := by apply UInt8.toNat_inj.1; exact h48
 have e : (s.extract 1 s.size).data.toList = s.data.toList.drop 1 := by
  simp only [ByteArray.data_extract, Array.toList_extract, List.extract]
  rw [List.take_of_length_le]
  rw [List.length_drop, Array.length_toList]
  exact Nat.le_refl _
 rw [e, data_bu (by omega), drop_bu (i := 1) h1, zerosL, if_pos hc]
 simp
theorem zeros_stop {s : ByteArray} (h : ¬ (1 < s.size ∧ bn s 0 = 48)) : zerosL s.data.toList = s.data.toList := by
 rcases Nat.lt_or_ge 1 s.size with h1 | h1
 ·have hc : bu s 0 ≠ 48 := fun e => h ⟨h1, by rw [bn_bu, e]; rfl⟩
  rw [data_bu (by omega), drop_bu (i := 1) h1, zerosL, if_neg hc]
 ·rcases hl : s.data.toList with _ | ⟨c, _ | ⟨d, l⟩⟩
  ·rfl
  ·rfl
  ·exfalso
   have : s.data.toList.length = s.size := Array.length_toList
   rw [hl] at this
   simp at this
   omega
theorem int_sp {x : Tk} {below : Bool} {s s' : ByteArray} {n er2 : Int} {j : Nat} {ns : List ByteArray} (hz : zerosL x.t.data.toList = s.data.toList) (hs : s' = if below = true ∧ s.data.toList ≠ [48] then ⟨#[45]⟩ ++ s else s) (hp : (er2 = 0 ∧ parseN s' = some n) ∨ (er2 = 12 ∧ n = 0 ∧ parseN s' = none)) :
 intP x below j ns = if er2 = 0 then .ok (inT n, j, ns) else .error ((x.a : Int), 51) := by
 have e : ba (if below = true ∧ zerosL x.t.data.toList ≠ [48] then 45 :: zerosL x.t.data.toList else zerosL x.t.data.toList) = s' := by
  rw [hs, hz]
  split
  ·apply ByteArray.ext; simp [ba]
  ·exact ba_eq s
 unfold intP intN
 rw [e]
 rcases hp with ⟨h1, h2⟩ | ⟨h1, _, h2⟩
 ·rw [h2, if_pos h1]
 ·rw [h2, if_neg (by omega)]
set_option maxRecDepth 100000 in
set_option maxHeartbeats 4000000 in
theorem integer_any {c : Rdc} {i i0 : Nat} {ns : List ByteArray} {pl er : Int} (x : Tk) (bl : Bool) (w : World) (h : Rd w c i ns pl er) (ht : x.t.size ≤ 4096) (hi : i0 + 1 ≤ i) :
 Calls Tryz.prog 59 #[.pointer (some ⟨c.R, 0, none⟩), .agg #[.int .i64 x.k, .string x.t, .int .i64 (x.a : Int), .int .i64 (x.b : Int)], .bool bl] w fun e w' =>
  ∃ v, e = .returned v ∧ RetT c w i0 i pl er (intP x bl i ns) v w' := by
 have H := Lib.hid h
 clear h
 obtain ⟨k, tx, a, b⟩ := x
 have B2 := Lib.hid (((Below.refl w.heap.size w).alloc (Nat.le_refl _) (Obj.cells #[.int .i64 k, .string tx, .int .i64 (a : Int), .int .i64 (b : Int)] 60)).alloc (by simp) (Obj.cells #[.int .i64 0, .int .i64 0, .string ⟨#[]⟩, .slice none 0 0] 31))
 have t0 := Lib.hid ((Below.heap_alloc (w.alloc (Obj.cells #[.int .i64 k, .string tx, .int .i64 (a : Int), .int .i64 (b : Int)] 60)) (Obj.cells #[.int .i64 0, .int .i64 0, .string ⟨#[]⟩, .slice none 0 0] 31) w.heap.size (by simp)).trans (heap_alloc_new w _))
 go_enter Tryz.func59, Tryz.ntmps59
 go_wp2_with fail
 go_loopw [7] (fun sv wr => (∃ s : ByteArray, sv = .string s ∧ s.size ≤ 4096 ∧ Hid (zerosL tx.data.toList = zerosL s.data.toList)) ∧ wr = (w.alloc (Obj.cells #[.int .i64 k, .string tx, .int .i64 (a : Int), .int .i64 (b : Int)] 60)).alloc (Obj.cells #[.int .i64 0, .int .i64 0, .string ⟨#[]⟩, .slice none 0 0] 31)) (fun sv _ => match sv with | .string s => s.size | _ => 0)
 case atStart => exact ⟨⟨tx, rfl, ht, Lib.hid rfl⟩, rfl⟩
 case round =>
  obtain ⟨⟨s, rfl, hs, hz⟩, rfl⟩ := hrel
  have hb : ∀ (i : Nat) (h : i < s.size), (s[i]'h).toNat = bn s i := bn_eq s
  by_cases hcont : 1 < s.size ∧ bn s 0 = 48
  ·obtain ⟨h1, h48⟩ := hcont
   have h1' : (1 : Int) < (s.size : Int) := by omega
   have h48' : ((bn s 0 : Int) == 48) = true := by simp; omega
   have HZ := Lib.hid (show zerosL tx.data.toList = zerosL (s.extract 1 s.size).data.toList by rw [hz.out, zeros_step h1 h48])
   clear h48
   go_wp2
   go_roundw
   case rel => exact ⟨⟨_, rfl, by rw [ByteArray.size_extract]; omega, HZ⟩, by trivial⟩
   case measure => simp; omega
  ·have HZ := Lib.hid (show zerosL tx.data.toList = s.data.toList by rw [hz.out, zeros_stop hcont])
   have HC := Lib.hid hcont
   have CP := fun s' => rparse_any s' ((w.alloc (Obj.cells #[.int .i64 k, .string tx, .int .i64 (a : Int), .int .i64 (b : Int)] 60)).alloc (Obj.cells #[.int .i64 0, .int .i64 0, .string ⟨#[]⟩, .slice none 0 0] 31))
   have CQ := Lib.hid CP
   clear CP hcont hz
   have tail : ∀ (s' : ByteArray), Hid (s' = if bl = true ∧ s.data.toList ≠ [48] then ⟨#[45]⟩ ++ s else s) → ∀ (n er2 : Int), Hid ((er2 = 0 ∧ parseN s' = some n) ∨ (er2 = 12 ∧ n = 0 ∧ parseN s' = none)) → Hid (intP ⟨k, tx, a, b⟩ bl i ns = if er2 = 0 then .ok (inT n, i, ns) else .error ((a : Int), 51)) :=
    fun s' hs' n er2 hp => Lib.hid (int_sp HZ.out hs'.out hp.out)
   have TL := Lib.hid tail
   clear tail
   by_cases h1 : (1 : Int) < (s.size : Int)
   all_goals
    first
    | (have h48 : ((bn s 0 : Int) == 48) = false := by
        have h2 := HC.out
        by_cases h3 : bn s 0 = 48
        ·exact absurd ⟨by omega, h3⟩ h2
        ·simp; omega)
    | skip
    cases s0 : (s.toList == [48])
   all_goals
    have HS0 := Lib.hid s0
    cases bl
   all_goals
    go_wp2_with fail
    refine (CQ.out _).mono ?_
    rintro e w1 ⟨⟨n, er2, rfl, hn, hp⟩, rfl⟩
    have HP := TL.out _ (Lib.hid (by have h := HS0.out; simp [Lib.toList_data] at h; simp [h])) n er2 hp
    have HN := Lib.hid hn
    clear hn hp
    by_cases he2 : er2 = 0
    ·have HP0 := Lib.hid (HP.out.trans (if_pos he2))
     subst he2
     go_wp2_with fail
     refine bodyPost_ret (v := .agg #[.int .i64 2, .int .i64 n, .string ⟨#[]⟩, .slice none 0 0]) (by simp [results, go_sem]) rfl ?_
     exact ⟨_, rfl, i, er, _, _, _, (H.out.alloc _).alloc _, Fr.of_below (((Below.refl _ _).alloc (Nat.le_refl _) _).alloc (by simp) _) H.out.base, Nat.le_refl _, TP.leaf _ _ 2 n ⟨#[]⟩, fun h => ⟨h, ⟨.inr (.inl ⟨rfl, HN.out, rfl, rfl⟩), fun i hi => absurd hi (by omega)⟩, by rw [leaf_nodes]; exact hi⟩, Lib.hid (by rw [HP0.out]; exact Sp.ok _ _ _)⟩
    ·have he2' : (er2 != 0) = true := by simpa using he2
     have HQ := Lib.hid (show intP ⟨k, tx, a, b⟩ _ i ns = .error ((a : Int), 51) from HP.out.trans (if_neg he2))
     go_wp2_with fail
     refine (fail_any _ 51 _ (by decide) (H.out.below B2.out)).mono ?_
     rintro e w3 ⟨rfl, ⟨er3, pl3, h3, hn3, hs3⟩, f3⟩
     have hbx := Lib.hid (f3.box (H.out.below B2.out) (b := w.heap.size + 1) ((congrArg _ (by simp)).trans (heap_alloc_new _ _)) (by decide) (by decide))
     have xf : ∀ j, w3.frozen? ⟨w.heap.size + 1, j, none⟩ = false := fun j => by simp [World.frozen?, hbx.out]
     obtain ⟨x0, x1, x2, x3⟩ := box4t hbx.out
     have H3 := Lib.hid h3
     have F3 := Lib.hid ((Fr.of_below B2.out H.out.base).trans f3)
     clear h3 f3
     go_wp2_with fail
     obtain ⟨p0, p1, p2, p3⟩ := box4t (box_put4 hbx.out (.int .i64 2) (.int .i64 n) (.string ⟨#[]⟩) (.slice none 0 0) rfl).1
     refine bodyPost_ret (v := .agg #[.int .i64 2, .int .i64 n, .string ⟨#[]⟩, .slice none 0 0]) (by simp [results, go_sem, p0, p1, p2, p3]) rfl ?_
     exact ⟨_, rfl, i, er3, _, _, _, H3.out.put hbx.out _ _ _ _, F3.out.put (by omega) H.out.base hbx.out _ _ _ _, Nat.le_refl _, TP.leaf _ _ 2 n ⟨#[]⟩, fun h => absurd h hn3, Lib.hid (by rw [HQ.out]; exact Sp.any (hs3.out ((), 0, [])) _)⟩
end Go.Proofs.YtlogcealmiokkaaGreatDoor
