/- The walk through coneyref01.less. -/
import Derived.Test.YtifjdfdjojkagaaRef3
namespace Go.Proofs.Ytifjdfdjojkagaa
open Go.RowKit Dg

structure LessRel (B : Nat) (W : World) (la lb : List Nat) (o cv iv : Value) (wr : World) (c i : Nat) (l : List Nat) : Prop where
  hc : cv = .int .i64 (c : Int)
  hi : iv = .int .i64 (i : Int)
  own : wr.ownsRow B 3 1 o i (cellsOf l)
  ok : Ok l
  len : l.length = i
  top : c ≤ 1
  most : i ≤ la.length
  sum : val l + 32768 ^ i * val (la.drop i) + val lb = val la + 32768 ^ i * (val (lb.drop i) + c)
  below : Below B W wr

/-- The digit that is laid down, and what is borrowed. -/
theorem LessRel.step {B : Nat} {W : World} {la lb : List Nat} {o cv iv : Value} {wr w1 : World} {c i : Nat} {l : List Nat} {o' : Value} {x y c' : Nat} {D : Int} (h : LessRel B W la lb o cv iv wr c i l)
    (hlt : i < la.length) (hx : la.getD i 0 = x) (hy : lb.getD i 0 = y) (hD : D = (x : Int) - c - y + 32768 * c') (hc' : c' ≤ 1) (hD0 : 0 ≤ D) (hD1 : D < 32768)
    (hown : w1.ownsRow B 3 1 o' (i + 1) (cellsOf l ++ [.int .i64 D])) (hb : Below B W w1) :
    LessRel B W la lb o' (.int .i64 (c' : Int)) (.int .i64 ((i : Int) + 1)) w1 c' (i + 1) (l ++ [D.toNat]) := by
  refine ⟨rfl, rfl, ?_, h.ok.append (Ok.cons (by omega) Ok.nil), by simp [h.len], hc', by omega, ?_, hb⟩
  · rw [cellsOf_snoc, Int.toNat_of_nonneg hD0]
    exact hown
  · have hs := h.sum
    rw [val_drop la i, val_drop lb i, hx, hy] at hs
    rw [Nat.pow_succ, val_snoc, h.len]
    exact step_down hs (by omega)
theorem LessRel.last {B : Nat} {W : World} {la lb : List Nat} {o cv iv : Value} {wr : World} {c i : Nat} {l : List Nat} (h : LessRel B W la lb o cv iv wr c i l)
    (h1 : i = la.length) (h2 : lb.length ≤ i) (h3 : val lb ≤ val la) : val l = val la - val lb := by
  have hs := h.sum
  have hlt := val_lt l h.ok
  rw [List.drop_eq_nil_of_le (by omega), List.drop_eq_nil_of_le h2] at hs
  rw [h.len] at hlt
  have hc := h.top
  have hc01 : c = 0 ∨ c = 1 := by omega
  rcases hc01 with rfl | rfl
  · simp [val] at hs; omega
  · simp [val] at hs; omega

theorem len_le {a b : List Nat} (ha : Ok a) (nb : Norm b) (h : val b ≤ val a) : b.length ≤ a.length := by
  rcases Nat.lt_or_ge a.length b.length with hlt | hge
  · have := val_lt_of_length ha nb hlt; omega
  · exact hge

set_option maxHeartbeats 2000000 in
theorem less_any (A A' : Option Addr) (n c m c' B M N : Nat) (w : World) (hn : n ≤ 1000000) (hm : m ≤ 1000000) (hB : B ≤ w.heap.size) (ha : Num w B A n c M) (hb : Num w B A' m c' N) (hle : N ≤ M) :
    Calls Try.prog 85 #[.slice A n c, .slice A' m c'] w fun e w' => (∃ R k r, k ≤ n ∧ e = .returned (.slice R k r) ∧ Num w' w'.heap.size R k r (M - N)) ∧ Below w.heap.size w w' := by
  obtain ⟨la, da, na, rfl⟩ := ha
  obtain ⟨lb, db, nb, rfl⟩ := hb
  have hla := Lib.hid da.len
  have hlb := Lib.hid db.len
  have hca := Lib.hid da.cells
  have hcb := Lib.hid db.cells
  have hmn : m ≤ n := by rw [← hla.out, ← hlb.out]; exact len_le da.ok nb hle
  have hle2 := Lib.hid hle
  clear hle
  go_enter Try.func85, Try.ntmps85
  go_wp2
  go_loopw [5, 6, 7, 8] (fun o cv iv _ wr => ∃ q i l, LessRel w.heap.size w la lb o cv iv wr q i l) (fun _ _ iv _ _ => n - (intOf iv).toNat)
  case atStart =>
    have hg : (w.alloc (Obj.cells #[] 3)).heap[w.heap.size]? = some (Obj.cells #[] 3 (0, 0)) := heap_alloc_new _ _
    exact ⟨0, 0, [], rfl, rfl, ownsRow_empty _ _ _ _ hg, Ok.nil, rfl, by omega, by omega, by simp [val, Nat.add_comm], (Below.refl _ _).alloc (Nat.le_refl _) _⟩
  case round =>
    obtain ⟨q, i, l, hr⟩ := hrel
    obtain rfl := hr.hc
    obtain rfl := hr.hi
    have htop := hr.top
    have hmost := hr.most
    have hown := Lib.hid hr.own
    have hsz := hr.below.size
    rw [hla.out] at hmost
    have hxl := Dig.lt da i
    have hyl := Dig.lt db i
    obtain ⟨x, hx⟩ : ∃ x, x = la.getD i 0 := ⟨_, rfl⟩
    obtain ⟨y, hy⟩ : ∃ y, y = lb.getD i 0 := ⟨_, rfl⟩
    rw [← hx] at hxl
    rw [← hy] at hyl
    have hcx : i < n → ∃ b off, A = some ⟨b, off, none⟩ ∧ wr.cell? ⟨b, off + i, none⟩ = some (.int .i64 (x : Int)) := fun hi => by
      obtain ⟨b, off, hA, hbB, hc⟩ := hca.out (by omega)
      exact ⟨b, off, hA, by rw [hx]; exact (hr.below.cell (p := ⟨b, off + i, none⟩) (show b < w.heap.size by omega)).trans (hc i hi)⟩
    have hcy : i < m → ∃ b off, A' = some ⟨b, off, none⟩ ∧ wr.cell? ⟨b, off + i, none⟩ = some (.int .i64 (y : Int)) := fun hi => by
      obtain ⟨b, off, hA, hbB, hc⟩ := hcb.out (by omega)
      exact ⟨b, off, hA, by rw [hy]; exact (hr.below.cell (p := ⟨b, off + i, none⟩) (show b < w.heap.size by omega)).trans (hc i hi)⟩
    have HX := Lib.hid hx.symm
    have HY := Lib.hid hy.symm
    have hy0 : m ≤ i → y = 0 := fun h => by rw [hy]; exact getD_out (by rw [hlb.out]; exact h)
    clear hx hy
    by_cases h1 : i < n
    · obtain ⟨b1, o1, rfl, hc1⟩ := hcx h1
      clear hcx
      by_cases h2 : i < m
      · obtain ⟨b2, o2, rfl, hc2⟩ := hcy h2
        clear hcy hy0
        by_cases h3 : (x : Int) - q - y < 0
        · go_wp2_with (at_builtin; go_must (refine wpList_push _ rfl _ _ _ rfl elInt w.heap.size _ _ _ rfl (hown.out.alloc _) _ _ (.int .i64 ((x : Int) - q - y + 32768)) rfl (by simp [go_sem]) rfl (by omega) (by unfold maxLen; omega) (by simp; omega) ?_); intro v1 w1 hown1 hb1)
          have R := hr.step (D := (x : Int) - q - y + 32768) (c' := 1) (by rw [hla.out]; exact h1) HX.out HY.out (by omega) (by omega) (by omega) (by omega) hown1 ((hr.below.alloc (by omega) _).trans hb1)
          clear hown1 hb1 hown
          go_wp2
          go_roundw
          case rel => exact ⟨_, _, _, R⟩
          case measure => simp [intOf]; omega
        · go_wp2_with (at_builtin; go_must (refine wpList_push _ rfl _ _ _ rfl elInt w.heap.size _ _ _ rfl (hown.out.alloc _) _ _ (.int .i64 ((x : Int) - q - y)) rfl (by simp [go_sem]) rfl (by omega) (by unfold maxLen; omega) (by simp; omega) ?_); intro v1 w1 hown1 hb1)
          have R := hr.step (D := (x : Int) - q - y) (c' := 0) (by rw [hla.out]; exact h1) HX.out HY.out (by omega) (by omega) (by omega) (by omega) hown1 ((hr.below.alloc (by omega) _).trans hb1)
          clear hown1 hb1 hown
          go_wp2
          go_roundw
          case rel => exact ⟨_, _, _, R⟩
          case measure => simp [intOf]; omega
      · obtain rfl := hy0 (by omega)
        clear hcy hy0
        by_cases h3 : (x : Int) - q < 0
        · go_wp2_with (at_builtin; go_must (refine wpList_push _ rfl _ _ _ rfl elInt w.heap.size _ _ _ rfl (hown.out.alloc _) _ _ (.int .i64 ((x : Int) - q + 32768)) rfl (by simp [go_sem]) rfl (by omega) (by unfold maxLen; omega) (by simp; omega) ?_); intro v1 w1 hown1 hb1)
          have R := hr.step (D := (x : Int) - q + 32768) (c' := 1) (by rw [hla.out]; exact h1) HX.out HY.out (by omega) (by omega) (by omega) (by omega) hown1 ((hr.below.alloc (by omega) _).trans hb1)
          clear hown1 hb1 hown
          go_wp2
          go_roundw
          case rel => exact ⟨_, _, _, R⟩
          case measure => simp [intOf]; omega
        · go_wp2_with (at_builtin; go_must (refine wpList_push _ rfl _ _ _ rfl elInt w.heap.size _ _ _ rfl (hown.out.alloc _) _ _ (.int .i64 ((x : Int) - q)) rfl (by simp [go_sem]) rfl (by omega) (by unfold maxLen; omega) (by simp; omega) ?_); intro v1 w1 hown1 hb1)
          have R := hr.step (D := (x : Int) - q) (c' := 0) (by rw [hla.out]; exact h1) HX.out HY.out (by omega) (by omega) (by omega) (by omega) hown1 ((hr.below.alloc (by omega) _).trans hb1)
          clear hown1 hb1 hown
          go_wp2
          go_roundw
          case rel => exact ⟨_, _, _, R⟩
          case measure => simp [intOf]; omega
    · have hl := Lib.hid (hr.last (by rw [hla.out]; omega) (by rw [hlb.out]; omega) hle2.out)
      obtain ⟨R, r, rfl, hd⟩ := Dig.of_own hr.own hr.ok
      have hbel := Lib.hid hr.below
      clear hr hown hcx hcy hy0
      go_wp2_with (go_at_call 86; refine (trim_any _ _ _ _ _ _ (by omega) hd).mono ?_; rintro e w' ⟨⟨k, hk, rfl, hnum⟩, rfl⟩)
      go_ret
      exact ⟨⟨R, k, r, by omega, rfl, by rw [← hl.out]; exact hnum⟩, hbel.out⟩
end Go.Proofs.Ytifjdfdjojkagaa
