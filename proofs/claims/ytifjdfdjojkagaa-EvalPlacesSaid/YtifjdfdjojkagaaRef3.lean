/- The walks through coneyref01: plus, less. -/
import Derived.Test.YtifjdfdjojkagaaRef2
namespace Go.Proofs.Ytifjdfdjojkagaa
open Go.RowKit Dg

theorem val_drop (l : List Nat) (i : Nat) : val (l.drop i) = l.getD i 0 + 32768 * val (l.drop (i + 1)) := by
  rcases Nat.lt_or_ge i l.length with h | h
  · rw [List.drop_eq_getElem_cons h, List.getD_eq_getElem?_getD, List.getElem?_eq_getElem h]; rfl
  · rw [List.drop_eq_nil_of_le h, List.drop_eq_nil_of_le (by omega), List.getD_eq_getElem?_getD, List.getElem?_eq_none h]; rfl
theorem getD_out {l : List Nat} {i : Nat} (h : l.length ≤ i) : l.getD i 0 = 0 := by
  rw [List.getD_eq_getElem?_getD, List.getElem?_eq_none h]; rfl
theorem step_up {P u v x y c s A B T : Nat} (h : u + P * (c + (x + 32768 * A) + (y + 32768 * B)) = s) (ht : T = c + x + y) (hv : v = u + P * (T % 32768)) :
    v + P * 32768 * (T / 32768 + A + B) = s := by
  have h1 := Nat.div_add_mod T 32768
  subst hv
  rw [← h, Nat.add_assoc, Nat.mul_assoc, ← Nat.mul_add]
  congr 2
  omega
theorem step_down {P u x y c c' d s t A B : Nat} (h : u + P * (x + 32768 * A) + s = t + P * (y + 32768 * B + c)) (hd : d + c + y = x + 32768 * c') :
    u + P * d + P * 32768 * A + s = t + P * 32768 * (B + c') := by
  have h1 : P * (d + c + y) = P * (x + 32768 * c') := by rw [hd]
  simp only [Nat.mul_add, Nat.mul_assoc] at *
  omega

structure PlusRel (B : Nat) (W : World) (la lb : List Nat) (o cv iv : Value) (wr : World) (c i : Nat) (l : List Nat) : Prop where
  hc : cv = .int .i64 (c : Int)
  hi : iv = .int .i64 (i : Int)
  own : wr.ownsRow B 3 1 o i (cellsOf l)
  ok : Ok l
  len : l.length = i
  top : c ≤ 1
  most : i ≤ max la.length lb.length + 1
  none : max la.length lb.length < i → c = 0
  sum : val l + 32768 ^ i * (c + val (la.drop i) + val (lb.drop i)) = val la + val lb
  below : Below B W wr

theorem PlusRel.step {B : Nat} {W : World} {la lb : List Nat} {o cv iv : Value} {wr w1 : World} {c i : Nat} {l : List Nat} {o' : Value} {T : Int} {x y : Nat} (h : PlusRel B W la lb o cv iv wr c i l)
    (hlt : i < la.length ∨ i < lb.length ∨ 0 < c) (hx : la.getD i 0 = x) (hy : lb.getD i 0 = y) (hok : x < 32768) (hok' : y < 32768) (hT : T = (c : Int) + x + y)
    (hown : w1.ownsRow B 3 1 o' (i + 1) (cellsOf l ++ [.int .i64 (T % 32768)])) (hb : Below B W w1) :
    PlusRel B W la lb o' (.int .i64 (T / 32768)) (.int .i64 ((i : Int) + 1)) w1 ((c + x + y) / 32768) (i + 1) (l ++ [(c + x + y) % 32768]) := by
  have ht := h.top
  refine ⟨?_, rfl, ?_, h.ok.append (Ok.cons (Nat.mod_lt _ (by omega)) Ok.nil), by simp [h.len], by omega, ?_, ?_, ?_, hb⟩
  · rw [hT]; exact vint (by omega)
  · rw [cellsOf_snoc]
    have : (((c + x + y) % 32768 : Nat) : Int) = T % 32768 := by rw [hT]; omega
    rw [this]
    exact hown
  · have hn := h.none
    omega
  · intro hl
    have h1 : la.getD i 0 = 0 := getD_out (by omega)
    have h2 : lb.getD i 0 = 0 := getD_out (by omega)
    omega
  · have hs := h.sum
    rw [val_drop la i, val_drop lb i, hx, hy] at hs
    rw [Nat.pow_succ]
    exact step_up hs rfl (by rw [val_snoc, h.len])
theorem PlusRel.last {B : Nat} {W : World} {la lb : List Nat} {o cv iv : Value} {wr : World} {c i : Nat} {l : List Nat} (h : PlusRel B W la lb o cv iv wr c i l)
    (h1 : la.length ≤ i) (h2 : lb.length ≤ i) (h3 : c = 0) : val l = val la + val lb := by
  have hs := h.sum
  rw [List.drop_eq_nil_of_le h1, List.drop_eq_nil_of_le h2, h3] at hs
  simpa [val] using hs

set_option maxHeartbeats 2000000 in
theorem plus_any (A A' : Option Addr) (n c m c' B M N : Nat) (w : World) (hn : n ≤ 1000000) (hm : m ≤ 1000000) (hB : B ≤ w.heap.size) (ha : Num w B A n c M) (hb : Num w B A' m c' N) :
    Calls Try.prog 84 #[.slice A n c, .slice A' m c'] w fun e w' => (∃ R k r, k ≤ max n m + 1 ∧ e = .returned (.slice R k r) ∧ Num w' w'.heap.size R k r (M + N)) ∧ Below w.heap.size w w' := by
  obtain ⟨la, da, na, rfl⟩ := ha
  obtain ⟨lb, db, nb, rfl⟩ := hb
  have hla := Lib.hid da.len
  have hlb := Lib.hid db.len
  have hca := Lib.hid da.cells
  have hcb := Lib.hid db.cells
  go_enter Try.func84, Try.ntmps84
  go_wp2
  go_loopw [5, 6, 7] (fun o cv iv wr => ∃ q i l, PlusRel w.heap.size w la lb o cv iv wr q i l) (fun _ cv iv _ => 2 * (max n m - (intOf iv).toNat) + (intOf cv).toNat)
  case atStart =>
    have hg : (w.alloc (Obj.cells #[] 3)).heap[w.heap.size]? = some (Obj.cells #[] 3 (0, 0)) := heap_alloc_new _ _
    exact ⟨0, 0, [], rfl, rfl, ownsRow_empty _ _ _ _ hg, Ok.nil, rfl, by omega, by omega, fun _ => rfl, by simp [val], (Below.refl _ _).alloc (Nat.le_refl _) _⟩
  case round =>
    obtain ⟨q, i, l, hr⟩ := hrel
    obtain rfl := hr.hc
    obtain rfl := hr.hi
    have htop := hr.top
    have hmost := hr.most
    have hown := Lib.hid hr.own
    have hsz := hr.below.size
    rw [hla.out, hlb.out] at hmost
    have hxl := Dig.lt da i
    have hyl := Dig.lt db i
    obtain ⟨x, hx⟩ : ∃ x, x = la.getD i 0 := ⟨_, rfl⟩
    obtain ⟨y, hy⟩ : ∃ y, y = lb.getD i 0 := ⟨_, rfl⟩
    rw [← hx] at hxl
    rw [← hy] at hyl
    have hcx : i < n → ∃ b off, A = some ⟨b, off, none⟩ ∧ wr.cell? ⟨b, off + i, none⟩ = some (.int .i64 (x : Int)) := fun hi => by
      obtain ⟨b, off, hA, hbB, hc⟩ := hca.out (by omega)
      exact ⟨b, off, hA, by rw [hx]; exact (hr.below.cell (p := ⟨b, off + i, none⟩) (show b < w.heap.size by omega)).trans (hc i hi)⟩
    have hcy : i < m → ∃ b off, A' = some ⟨b, off, none⟩ ∧ wr.cell? ⟨b, off + i, none⟩ = some (.int .i64 (y : Int)) := fun hi => by
      obtain ⟨b, off, hA, hbB, hc⟩ := hcb.out (by omega)
      exact ⟨b, off, hA, by rw [hy]; exact (hr.below.cell (p := ⟨b, off + i, none⟩) (show b < w.heap.size by omega)).trans (hc i hi)⟩
    have HX := Lib.hid hx.symm
    have HY := Lib.hid hy.symm
    have hx0 : n ≤ i → x = 0 := fun h => by rw [hx]; exact getD_out (by rw [hla.out]; exact h)
    have hy0 : m ≤ i → y = 0 := fun h => by rw [hy]; exact getD_out (by rw [hlb.out]; exact h)
    clear hx hy
    by_cases h1 : i < n
    · obtain ⟨b1, o1, rfl, hc1⟩ := hcx h1
      clear hcx hx0
      by_cases h2 : i < m
      · obtain ⟨b2, o2, rfl, hc2⟩ := hcy h2
        clear hcy hy0
        go_wp2_with (at_builtin; go_must (refine wpList_push _ rfl _ _ _ rfl elInt w.heap.size _ _ _ rfl (hown.out.alloc _) _ _ (.int .i64 (((q : Int) + x + y) % 32768)) rfl (by simp [go_sem]) rfl (by omega) (by unfold maxLen; omega) (by simp; omega) ?_); intro v1 w1 hown1 hb1)
        have R := hr.step (.inl (by rw [hla.out]; exact h1)) HX.out HY.out hxl hyl rfl hown1 ((hr.below.alloc (by omega) _).trans hb1)
        clear hown1 hb1 hown
        go_wp2
        go_roundw
        case rel => exact ⟨_, _, _, R⟩
        case measure => simp [intOf]; omega
      · obtain rfl := hy0 (by omega)
        clear hcy hy0
        go_wp2_with (at_builtin; go_must (refine wpList_push _ rfl _ _ _ rfl elInt w.heap.size _ _ _ rfl (hown.out.alloc _) _ _ (.int .i64 (((q : Int) + x) % 32768)) rfl (by simp [go_sem]) rfl (by omega) (by unfold maxLen; omega) (by simp; omega) ?_); intro v1 w1 hown1 hb1)
        have R := hr.step (T := ((q : Int) + x)) (.inl (by rw [hla.out]; exact h1)) HX.out HY.out hxl hyl (by omega) hown1 ((hr.below.alloc (by omega) _).trans hb1)
        clear hown1 hb1 hown
        go_wp2
        go_roundw
        case rel => exact ⟨_, _, _, R⟩
        case measure => simp [intOf]; omega
    · obtain rfl := hx0 (by omega)
      clear hcx hx0
      by_cases h2 : i < m
      · obtain ⟨b2, o2, rfl, hc2⟩ := hcy h2
        clear hcy hy0
        go_wp2_with (at_builtin; go_must (refine wpList_push _ rfl _ _ _ rfl elInt w.heap.size _ _ _ rfl (hown.out.alloc _) _ _ (.int .i64 (((q : Int) + y) % 32768)) rfl (by simp [go_sem]) rfl (by omega) (by unfold maxLen; omega) (by simp; omega) ?_); intro v1 w1 hown1 hb1)
        have R := hr.step (T := ((q : Int) + y)) (.inr (.inl (by rw [hlb.out]; exact h2))) HX.out HY.out hxl hyl (by omega) hown1 ((hr.below.alloc (by omega) _).trans hb1)
        clear hown1 hb1 hown
        go_wp2
        go_roundw
        case rel => exact ⟨_, _, _, R⟩
        case measure => simp [intOf]; omega
      · obtain rfl := hy0 (by omega)
        clear hcy hy0
        by_cases h3 : 0 < q
        · go_wp2_with (at_builtin; go_must (refine wpList_push _ rfl _ _ _ rfl elInt w.heap.size _ _ _ rfl (hown.out.alloc _) _ _ (.int .i64 ((q : Int) % 32768)) rfl (by simp [go_sem]) rfl (by omega) (by unfold maxLen; omega) (by simp; omega) ?_); intro v1 w1 hown1 hb1)
          have R := hr.step (T := (q : Int)) (.inr (.inr h3)) HX.out HY.out hxl hyl (by omega) hown1 ((hr.below.alloc (by omega) _).trans hb1)
          clear hown1 hb1 hown
          go_wp2
          go_roundw
          case rel => exact ⟨_, _, _, R⟩
          case measure => simp [intOf]; omega
        · obtain rfl : q = 0 := by omega
          have hl := Lib.hid (hr.last (by rw [hla.out]; omega) (by rw [hlb.out]; omega) rfl)
          obtain ⟨R, r, rfl, hd⟩ := Dig.of_own hr.own hr.ok
          have hbel := Lib.hid hr.below
          clear hr hown
          go_wp2_with (go_at_call 86; refine (trim_any _ _ _ _ _ _ (by omega) hd).mono ?_; rintro e w' ⟨⟨k, hk, rfl, hnum⟩, rfl⟩)
          go_ret
          exact ⟨⟨R, k, r, by omega, rfl, by rw [← hl.out]; exact hnum⟩, hbel.out⟩
end Go.Proofs.Ytifjdfdjojkagaa
