/- The reference's parser: integer and variable. -/
import Derived.Test.YtlgeepjlnjlgdaaRd5
import Derived.Test.YtlgeepjlnjlgdaaRd4
namespace Go.Proofs.Ytlgeepjlnjlgdaa
open Go.RowKit

/-- How many terms a term has. -/
def sumTo : Nat → (Nat → Nat) → Nat
  | 0, _ => 0
  | n + 1, f => sumTo n f + f n
def T.nodes : T → Nat
  | .nil => 0
  | .mk _ _ _ m a => 1 + sumTo m fun i => (a i).nodes
/-- A term as a text tells it. -/
def T.good : T → Prop
  | .nil => False
  | .mk k n s m a => ((k = 1 ∧ 0 ≤ n ∧ n < 1000 ∧ s = ⟨#[]⟩ ∧ m = 0) ∨ (k = 2 ∧ I64 n ∧ s = ⟨#[]⟩ ∧ m = 0) ∨ (k = 3 ∧ n = 0 ∧ s.size ≤ 4096 ∧ m = 0) ∨ (k = 4 ∧ n = 0 ∧ s.size ≤ 4096 ∧ 0 < m)) ∧ ∀ i, i < m → (a i).good
/-- What a function of the reader's that hands back a term comes to. -/
def RetT (c : Rdc) (w : World) (i0 i : Nat) (er : Int) (v : Value) (w' : World) : Prop :=
  ∃ j er' t, Rd w' c j er' ∧ Fr c w w' ∧ i ≤ j ∧ TP w' (fun b => w.heap.size ≤ b) t v ∧ (er' = 0 → er = 0 ∧ t.good ∧ i0 + t.nodes ≤ j)
theorem leaf_nodes (k n : Int) (s : ByteArray) (a : Nat → T) : (T.mk k n s 0 a).nodes = 1 := rfl

/-- A result box, written. -/
theorem Fr.put {c : Rdc} {w0 w : World} (h : Fr c w0 w) {g : Nat} (hg : w0.heap.size ≤ g) (hB : c.B ≤ w0.heap.size) {t : TypeId} {m : Nat × Nat} {u0 u1 u2 u3 : Value} (hb : w.heap[g]? = some (.cells #[u0, u1, u2, u3] t m)) (x0 x1 x2 x3 : Value) :
    Fr c w0 ((((w.setCell ⟨g, 0, none⟩ x0).setCell ⟨g, 1, none⟩ x1).setCell ⟨g, 2, none⟩ x2).setCell ⟨g, 3, none⟩ x3) := by
  obtain ⟨_, _, p2, p3⟩ := box_put4 hb x0 x1 x2 x3 rfl
  exact ⟨p3 _ _ (by omega) h.low, fun b cs t' m' hb' hR ht => (p2 b (by have := heap_lt hb'; omega)).trans (h.keep b cs t' m' hb' hR ht)⟩
theorem Rd.put {c : Rdc} {w : World} {i : Nat} {er : Int} (h : Rd w c i er) {g : Nat} {m : Nat × Nat} {u0 u1 u2 u3 : Value} (hb : w.heap[g]? = some (.cells #[u0, u1, u2, u3] 24 m)) (x0 x1 x2 x3 : Value) :
    Rd ((((w.setCell ⟨g, 0, none⟩ x0).setCell ⟨g, 1, none⟩ x1).setCell ⟨g, 2, none⟩ x2).setCell ⟨g, 3, none⟩ x3) c i er := by
  have h1 : Rd (w.setCell ⟨g, 0, none⟩ x0) c i er := h.set_far hb 0 x0 (by decide) (by decide) (by decide)
  have b1 := blk_set hb 0 x0
  have h2 := h1.set_far b1 1 x1 (by decide) (by decide) (by decide)
  have b2 := blk_set b1 1 x1
  have h3 := h2.set_far b2 2 x2 (by decide) (by decide) (by decide)
  have b3 := blk_set b2 2 x2
  exact h3.set_far b3 3 x3 (by decide) (by decide) (by decide)
set_option maxRecDepth 100000 in
set_option maxHeartbeats 2000000 in
theorem integer_any {c : Rdc} {i i0 : Nat} {er : Int} (k : Int) (tx : ByteArray) (a b : Int) (bl : Bool) (w : World) (h : Rd w c i er) (ht : tx.size ≤ 4096) (hi : i0 + 1 ≤ i) :
    Calls Try.prog 77 #[.pointer (some ⟨c.R, 0, none⟩), .agg #[.int .i64 k, .string tx, .int .i64 a, .int .i64 b], .bool bl] w fun e w' =>
      ∃ v, e = .returned v ∧ RetT c w i0 i er v w' := by
  have H := Lib.hid h
  clear h
  have B2 := Lib.hid (((Below.refl w.heap.size w).alloc (Nat.le_refl _) (Obj.cells #[.int .i64 k, .string tx, .int .i64 a, .int .i64 b] 72)).alloc (by simp) (Obj.cells #[.int .i64 0, .int .i64 0, .string ⟨#[]⟩, .slice none 0 0] 24))
  have t0 := Lib.hid ((Below.heap_alloc (w.alloc (Obj.cells #[.int .i64 k, .string tx, .int .i64 a, .int .i64 b] 72)) (Obj.cells #[.int .i64 0, .int .i64 0, .string ⟨#[]⟩, .slice none 0 0] 24) w.heap.size (by simp)).trans (heap_alloc_new w _))
  go_enter Try.func77, Try.ntmps77
  go_wp2_with fail
  go_loopw [7] (fun sv wr => (∃ s : ByteArray, sv = .string s ∧ s.size ≤ 4096) ∧ wr = (w.alloc (Obj.cells #[.int .i64 k, .string tx, .int .i64 a, .int .i64 b] 72)).alloc (Obj.cells #[.int .i64 0, .int .i64 0, .string ⟨#[]⟩, .slice none 0 0] 24)) (fun sv _ => match sv with | .string s => s.size | _ => 0)
  case atStart => exact ⟨⟨tx, rfl, ht⟩, rfl⟩
  case round =>
    obtain ⟨⟨s, rfl, hs⟩, rfl⟩ := hrel
    have hb : ∀ (i : Nat) (h : i < s.size), (s[i]'h).toNat = bn s i := bn_eq s
    by_cases h1 : (1 : Int) < (s.size : Int)
    · cases h48 : ((bn s 0 : Int) == 48) with
      | true =>
        go_wp2
        go_roundw
        case rel => exact ⟨⟨_, rfl, by rw [ByteArray.size_extract]; omega⟩, by trivial⟩
        case measure => simp; omega
      | false =>
        go_wp2_with fail
        all_goals
          refine (rparse_any _ _).mono ?_
          rintro e w1 ⟨⟨n, er2, rfl, hn⟩, rfl⟩
          have HN := Lib.hid hn
          clear hn
          by_cases he2 : er2 = 0
          · subst he2
            go_wp2_with fail
            refine bodyPost_ret (v := .agg #[.int .i64 2, .int .i64 n, .string ⟨#[]⟩, .slice none 0 0]) (by simp [results, go_sem]) rfl ?_
            exact ⟨_, rfl, i, er, _, (H.out.alloc _).alloc _, Fr.of_below (((Below.refl _ _).alloc (Nat.le_refl _) _).alloc (by simp) _) H.out.base, Nat.le_refl _, TP.leaf _ _ 2 n ⟨#[]⟩, fun h => ⟨h, ⟨.inr (.inl ⟨rfl, HN.out, rfl, rfl⟩), fun i hi => absurd hi (by omega)⟩, by rw [leaf_nodes]; exact hi⟩⟩
          · have he2' : (er2 != 0) = true := by simpa using he2
            go_wp2_with fail
            refine (fail_any _ 51 _ (by decide) (H.out.below B2.out)).mono ?_
            rintro e w3 ⟨rfl, ⟨er3, h3, hn3⟩, f3⟩
            have hbx := Lib.hid (f3.box (H.out.below B2.out) (b := w.heap.size + 1) ((congrArg _ (by simp)).trans (heap_alloc_new _ _)) (by decide) (by decide))
            have xf : ∀ j, w3.frozen? ⟨w.heap.size + 1, j, none⟩ = false := fun j => by simp [World.frozen?, hbx.out]
            obtain ⟨x0, x1, x2, x3⟩ := box4t hbx.out
            have H3 := Lib.hid h3
            have F3 := Lib.hid ((Fr.of_below B2.out H.out.base).trans f3)
            clear h3 f3
            go_wp2_with fail
            obtain ⟨p0, p1, p2, p3⟩ := box4t (box_put4 hbx.out (.int .i64 2) (.int .i64 n) (.string ⟨#[]⟩) (.slice none 0 0) rfl).1
            refine bodyPost_ret (v := .agg #[.int .i64 2, .int .i64 n, .string ⟨#[]⟩, .slice none 0 0]) (by simp [results, go_sem, p0, p1, p2, p3]) rfl ?_
            exact ⟨_, rfl, i, er3, _, H3.out.put hbx.out _ _ _ _, F3.out.put (by omega) H.out.base hbx.out _ _ _ _, Nat.le_refl _, TP.leaf _ _ 2 n ⟨#[]⟩, fun h => absurd h hn3⟩
    · go_wp2_with fail
      all_goals
        refine (rparse_any _ _).mono ?_
        rintro e w1 ⟨⟨n, er2, rfl, hn⟩, rfl⟩
        have HN := Lib.hid hn
        clear hn
        by_cases he2 : er2 = 0
        · subst he2
          go_wp2_with fail
          refine bodyPost_ret (v := .agg #[.int .i64 2, .int .i64 n, .string ⟨#[]⟩, .slice none 0 0]) (by simp [results, go_sem]) rfl ?_
          exact ⟨_, rfl, i, er, _, (H.out.alloc _).alloc _, Fr.of_below (((Below.refl _ _).alloc (Nat.le_refl _) _).alloc (by simp) _) H.out.base, Nat.le_refl _, TP.leaf _ _ 2 n ⟨#[]⟩, fun h => ⟨h, ⟨.inr (.inl ⟨rfl, HN.out, rfl, rfl⟩), fun i hi => absurd hi (by omega)⟩, by rw [leaf_nodes]; exact hi⟩⟩
        · have he2' : (er2 != 0) = true := by simpa using he2
          go_wp2_with fail
          refine (fail_any _ 51 _ (by decide) (H.out.below B2.out)).mono ?_
          rintro e w3 ⟨rfl, ⟨er3, h3, hn3⟩, f3⟩
          have hbx := Lib.hid (f3.box (H.out.below B2.out) (b := w.heap.size + 1) ((congrArg _ (by simp)).trans (heap_alloc_new _ _)) (by decide) (by decide))
          have xf : ∀ j, w3.frozen? ⟨w.heap.size + 1, j, none⟩ = false := fun j => by simp [World.frozen?, hbx.out]
          obtain ⟨x0, x1, x2, x3⟩ := box4t hbx.out
          have H3 := Lib.hid h3
          have F3 := Lib.hid ((Fr.of_below B2.out H.out.base).trans f3)
          clear h3 f3
          go_wp2_with fail
          obtain ⟨p0, p1, p2, p3⟩ := box4t (box_put4 hbx.out (.int .i64 2) (.int .i64 n) (.string ⟨#[]⟩) (.slice none 0 0) rfl).1
          refine bodyPost_ret (v := .agg #[.int .i64 2, .int .i64 n, .string ⟨#[]⟩, .slice none 0 0]) (by simp [results, go_sem, p0, p1, p2, p3]) rfl ?_
          exact ⟨_, rfl, i, er3, _, H3.out.put hbx.out _ _ _ _, F3.out.put (by omega) H.out.base hbx.out _ _ _ _, Nat.le_refl _, TP.leaf _ _ 2 n ⟨#[]⟩, fun h => absurd h hn3⟩
end Go.Proofs.Ytlgeepjlnjlgdaa
