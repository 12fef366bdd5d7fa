/- The walk through coneyref01.times. -/
import Derived.Test.YtifjdfdjojkagaaRef7
import Derived.Test.YtifjdfdjojkagaaTimes
import Derived.StillTailTactics
namespace Go.Proofs.Ytifjdfdjojkagaa
open Go.RowKit Dg

/-- The memory in the loops of 'times': the two arguments' boxes, the result's, the row that is made. -/
structure TW (w : World) (p q : Bool) (A A' : Option Addr) (n c m c' : Nat) (wr : World) (o : List Nat) : Prop where
  b0 : wr.heap[w.heap.size]? = some (.cells #[.bool p, .slice A n c] 69 (0, 0))
  b1 : wr.heap[w.heap.size + 1]? = some (.cells #[.bool q, .slice A' m c'] 69 (0, 0))
  b2 : wr.heap[w.heap.size + 1 + 1]? = some (.cells #[.bool false, .slice none 0 0] 69 (0, 0))
  g : wr.heap[w.heap.size + 1 + 1 + 1]? = some (.cells (cellsOf o).toArray 3 (0, 0))
  below : Below w.heap.size w wr

set_option maxRecDepth 100000 in
theorem mk_ints (c : Int) (n : Nat) (hc : c = (n : Int)) (hn : n ≤ 4000000) (w : World) :
    (Instr.makeSlice 67 (.int .i64 c) (.int .i64 c)).run Try.prog w = .ok (.slice (some ⟨w.heap.size, 0, none⟩) n n) (w.alloc (.cells (cellsOf (List.replicate n 0)).toArray 3)) := by
  obtain ⟨i, hi, hz, hs, hb⟩ := elInt.hi
  have h := run_make (P := Try.prog) w 67 3 i _ elInt.ht hi hz .i64 .i64 c c (by omega) (by omega) (by rw [hb]; omega) (by omega)
  rw [h, hs, hc, Int.toNat_natCast, Nat.mul_one]
  congr 3
  apply Array.ext
  · simp [size_madeCells, cellsOf]
  · intro j h1 h2
    have hj : j % 1 = 0 := Nat.mod_one j
    simp [madeCells, cellsOf, Value.cells, hj]

theorem own_set (w : World) {g : Nat} {o : List Nat} (h : w.heap[g]? = some (.cells (cellsOf o).toArray 3 (0, 0))) (j v : Nat) :
    (w.setCell ⟨g, j, none⟩ (.int .i64 (v : Int))).heap[g]? = some (.cells (cellsOf (o.set j v)).toArray 3 (0, 0)) := by
  rw [Blk.set_ h]
  simp [cellsOf, List.map_set]
theorem own_cell (w : World) {g : Nat} {o : List Nat} (h : w.heap[g]? = some (.cells (cellsOf o).toArray 3 (0, 0))) {j : Nat} (hj : j < o.length) :
    w.cell? ⟨g, j, none⟩ = some (.int .i64 ((o.getD j 0 : Nat) : Int)) := by
  rw [cell_of_row w g j _ _ _ h]
  simp [cellsOf, List.getD_eq_getElem?_getD, List.getElem?_eq_getElem hj]
theorem own_free (w : World) {g : Nat} {cs : Array Value} {t : TypeId} (h : w.heap[g]? = some (.cells cs t (0, 0))) (j : Nat) : w.frozen? ⟨g, j, none⟩ = false := by
  simp [World.frozen?, h]

variable {w wr w' : World} {p q : Bool} {A A' : Option Addr} {n c m c' : Nat} {o : List Nat}
theorem TW.drew (h : TW w p q A A' n c m c' wr o) : TW w p q A A' n c m c' wr.drew o := ⟨h.b0, h.b1, h.b2, h.g, h.below.drew⟩
theorem TW.set (h : TW w p q A A' n c m c' wr o) (j v : Nat) : TW w p q A A' n c m c' (wr.setCell ⟨w.heap.size + 1 + 1 + 1, j, none⟩ (.int .i64 (v : Int))) (o.set j v) :=
  ⟨(Below.heap_setCell _ _ _ _ (by simp; omega)).trans h.b0, (Below.heap_setCell _ _ _ _ (by simp)).trans h.b1, (Below.heap_setCell _ _ _ _ (by simp)).trans h.b2, own_set _ h.g j v, h.below.setCell (by simp; omega) _⟩

set_option maxRecDepth 100000 in
set_option maxHeartbeats 4000000 in
theorem times_any (p q : Bool) (A A' : Option Addr) (n c m c' B M N : Nat) (w : World) (hn : n ≤ 1000000) (hm : m ≤ 1000000) (hB : B ≤ w.heap.size) (ha : Num w B A n c M) (hb : Num w B A' m c' N) :
    Calls Try.prog 51 #[.agg #[.bool p, .slice A n c], .agg #[.bool q, .slice A' m c']] w
      fun e w' => (∃ R k r, k ≤ n + m + 1 ∧ e = .returned (.agg #[.bool (p != q), .slice R k r]) ∧ Num w' w'.heap.size R k r (M * N)) ∧ Below w.heap.size w w' := by
  obtain ⟨la, da, na, rfl⟩ := ha
  obtain ⟨lb, db, nb, rfl⟩ := hb
  have hmk := mk_ints ((n : Int) + m + 1) (n + m + 1) (by omega) (by omega)
  go_enter Try.func51, Try.ntmps51
  go_wp2
  clear hmk
  have hca := Lib.hid da.cells
  have hcb := Lib.hid db.cells
  have hla := Lib.hid da.len
  have hlb := Lib.hid db.len
  go_loopw [6, 7] (fun iv _ wr => ∃ (I : Nat) (o : List Nat), I ≤ n ∧ iv = .int .i64 (I : Int) ∧ Mul la lb o I 0 ∧ TW w p q A A' n c m c' wr o) (fun iv _ _ => n - (intOf iv).toNat)
  case atStart =>
    refine ⟨0, _, by omega, rfl, Mul.start la lb, ?_, ?_, ?_, ?_, ?_⟩
    · exact (Below.heap_alloc _ _ _ (by simp; omega)).trans ((Below.heap_alloc _ _ _ (by simp; omega)).trans ((Below.heap_alloc _ _ _ (by simp)).trans (heap_at _ _ rfl)))
    · exact (Below.heap_alloc _ _ _ (by simp)).trans ((Below.heap_alloc _ _ _ (by simp)).trans (heap_at _ _ (by simp)))
    · exact (Below.heap_alloc _ _ _ (by simp)).trans (heap_at _ _ (by simp))
    · rw [hla.out, hlb.out]; exact heap_at _ _ (by simp)
    · exact ((((Below.refl _ _).alloc (Nat.le_refl _) _).alloc (by simp) _).alloc (by simp; omega) _).alloc (by simp; omega) _
  case round =>
    obtain ⟨I, o, hI, rfl, hmul, htw⟩ := hrel
    obtain ⟨c0, c1, -, -⟩ := box2 htw.b0
    obtain ⟨d0, d1, -, -⟩ := box2 htw.b1
    by_cases hlt : I < n
    · go_wp2
      obtain ⟨wo, rfl⟩ : ∃ wo, wo = wr := ⟨_, rfl⟩
      go_loopw [7] (fun kv wr => ∃ (K : Nat) (o : List Nat), K ≤ m ∧ kv = .int .i64 (K : Int) ∧ Mul la lb o I K ∧ TW w p q A A' n c m c' wr o) (fun kv _ => m - (intOf kv).toNat)
      case atStart => exact ⟨0, o, by omega, rfl, hmul, htw⟩
      case round =>
        clear hmul htw c0 c1 d0 d1
        obtain ⟨K, o, hK, rfl, hmul, htw⟩ := hrel
        obtain ⟨c0, c1, -, -⟩ := box2 htw.b0
        obtain ⟨d0, d1, -, -⟩ := box2 htw.b1
        by_cases hlk : K < m
        · obtain ⟨b1, o1, rfl, hb1B, hc1⟩ := hca.out (by omega)
          obtain ⟨b2, o2, rfl, hb2B, hc2⟩ := hcb.out (by omega)
          have h1 := (htw.below.cell (p := ⟨b1, o1 + I, none⟩) (show b1 < w.heap.size by omega)).trans (hc1 I hlt)
          have h2 := (htw.below.cell (p := ⟨b2, o2 + K, none⟩) (show b2 < w.heap.size by omega)).trans (hc2 K hlk)
          have hol := hmul.len
          rw [hla.out, hlb.out] at hol
          have hx := own_cell wr htw.g (j := I + K) (by omega)
          have hy := own_cell wr htw.g (j := I + K + 1) (by omega)
          have hf := own_free wr htw.g
          have hb1' := Dig.lt da I
          have hb2' := Dig.lt db K
          have hxt : o.getD (I + K) 0 ≤ 65536 := by have := hmul.top; rw [hlb.out] at this; split at this <;> omega
          have hyt := hmul.low (I + K + 1) (by omega)
          have hs := hmul.step da.ok db.ok (by rw [hla.out]; exact hlt) (by rw [hlb.out]; exact hlk) rfl rfl rfl rfl
          obtain ⟨a, ea⟩ : ∃ a, a = la.getD I 0 := ⟨_, rfl⟩
          obtain ⟨b, eb⟩ : ∃ b, b = lb.getD K 0 := ⟨_, rfl⟩
          obtain ⟨x, ex⟩ : ∃ x, x = o.getD (I + K) 0 := ⟨_, rfl⟩
          obtain ⟨y, ey⟩ : ∃ y, y = o.getD (I + K + 1) 0 := ⟨_, rfl⟩
          rw [← ea] at h1 hb1'
          rw [← eb] at h2 hb2'
          rw [← ex] at hx hxt
          rw [← ey] at hy hyt
          rw [← ea, ← eb, ← ex, ← ey] at hs
          have hab : a * b ≤ 1073741824 := Nat.le_trans (Nat.mul_le_mul (show a ≤ 32768 by omega) (show b ≤ 32768 by omega)) (by omega)
          have hab' : (a : Int) * b ≤ 1073741824 := by rw [← Int.natCast_mul]; omega
          have hab0 : 0 ≤ (a : Int) * b := by rw [← Int.natCast_mul]; omega
          have hT := Lib.hid htw
          have EY := Lib.hid ey
          have HOL := Lib.hid hol
          have i1 : (I : Int) < n := by omega
          have i2 : (K : Int) < m := by omega
          have i3 : (I : Int) + K < (n : Int) + m + 1 := by omega
          obtain ⟨t, et⟩ : ∃ t, t = x + a * b := ⟨_, rfl⟩
          have ht : t ≤ 1073807360 := by omega
          rw [← et] at hs
          have w1 : IntKind.i64.wrap ((I : Int) + K) = (I : Int) + K := IntWalk.i64_in _ (by omega)
          have w2 : ((I : Int) + K).toNat = I + K := by omega
          have w3 : 0 ≤ (I : Int) + K := by omega
          have w4 : IntKind.i64.wrap ((a : Int) * b) = (a : Int) * b := IntWalk.i64_in _ (by omega)
          have w5 : IntKind.i64.wrap ((x : Int) + (a : Int) * b) = (t : Int) := by rw [et, IntWalk.i64_in _ (by omega), Int.natCast_add, Int.natCast_mul]
          have hM := Lib.hid hs
          clear hmul htw hc1 hc2 hol ea eb ex ey hs et hab hab' hab0
          go_wp2
          go_still_tail 23, (by kernel_rfl)
          change wpList _ _ _ _ _ wr.drew
          go_wp2
          clear w1 w2 w4 w5 hx hy hf c0 c1 d0 d1 h1 h2
          have hT2 := (hT.out.set (I + K) t).drew
          have hT2 : Hid (TW _ _ _ _ _ _ _ _ _ (wr.setCell ⟨w.heap.size + 1 + 1 + 1, I + K, none⟩ (.int .i64 (t : Int))).drew _) := hT2
          clear hT
          generalize (wr.setCell ⟨w.heap.size + 1 + 1 + 1, I + K, none⟩ (.int .i64 (t : Int))).drew = w8 at hT2 ⊢
          have hx := own_cell w8 hT2.out.g (j := I + K) (by simp; have := HOL.out; omega)
          have hy := own_cell w8 hT2.out.g (j := I + K + 1) (by simp; have := HOL.out; omega)
          rw [getD_set _ _ _ _ (by have := HOL.out; omega), if_pos rfl] at hx
          rw [getD_set _ _ _ _ (by have := HOL.out; omega), if_neg (by omega), ← EY.out] at hy
          have hf := own_free w8 hT2.out.g
          obtain ⟨d, ed⟩ : ∃ d, d = t / 32768 := ⟨_, rfl⟩
          obtain ⟨z, ez⟩ : ∃ z, z = y + d := ⟨_, rfl⟩
          have hd0 : d ≤ 32770 := by omega
          have w1 : IntKind.i64.wrap ((I : Int) + K) = (I : Int) + K := IntWalk.i64_in _ (by omega)
          have w2 : ((I : Int) + K).toNat = I + K := by omega
          have w6 : IntKind.i64.wrap ((I : Int) + K + 1) = (I : Int) + K + 1 := IntWalk.i64_in _ (by omega)
          have w7 : ((I : Int) + K + 1).toNat = I + K + 1 := by omega
          have w8' : 0 ≤ (I : Int) + K + 1 := by omega
          have w9 : (I : Int) + K + 1 < (n : Int) + m + 1 := by omega
          have w10 : (I : Int) + K < (n : Int) + m := by omega
          have w11 : IntKind.i64.wrap ((t : Int).tdiv 32768) = (d : Int) := by rw [IntWalk.i64_quo _ _ (by omega), ed]; omega
          have w12 : IntKind.i64.wrap ((y : Int) + d) = (z : Int) := by rw [IntWalk.i64_in _ (by omega), ez]; omega
          have ED := Lib.hid ed
          have EZ := Lib.hid ez
          clear ed ez
          go_still_tail 21, (by kernel_rfl)
          change wpList _ _ _ _ _ w8.drew
          go_wp2
          go_roundw
          case rel =>
            have hT3 := ((hT2.out.set (I + K + 1) z).set (I + K) (t % 32768)).drew
            rw [show ((t % 32768 : Nat) : Int) = (t : Int) % 32768 by omega, EZ.out, ED.out, show ((y + t / 32768 : Nat) : Int) = (y : Int) + (t : Int) / 32768 by omega] at hT3
            exact ⟨K + 1, _, by omega, by go_num, hM.out, hT3⟩
          case measure => simp [intOf]; omega
        · obtain rfl : K = m := by omega
          have hnx := Lib.hid (hmul.next (by rw [hla.out]; exact hlt) hlb.out.symm)
          have HT := Lib.hid htw
          clear hmul htw
          go_wp2
          go_roundw
          case rel => exact ⟨I + 1, _, by omega, by go_num, hnx.out, HT.out⟩
          case measure => simp [intOf]; omega
    · obtain rfl : I = n := by omega
      have hlast := hmul.last hla.out.symm
      rw [hla.out, hlb.out] at hlast
      have HT := Lib.hid htw
      have hX : val la * val lb < 32768 ^ (I + m) := mul_lt_pow (by have := val_lt la da.ok; rwa [hla.out] at this) (by have := val_lt lb db.ok; rwa [hlb.out] at this)
      have HX := Lib.hid hX
      have HL := Lib.hid hlast
      clear hmul htw hX hlast
      go_wp2
      clear c0 c1 d0 d1
      obtain ⟨wo, rfl⟩ : ∃ wo, wo = wr := ⟨_, rfl⟩
      go_loopw [8] (fun jv wr => ∃ (J : Nat) (o : List Nat), J ≤ I + m ∧ jv = .int .i64 (J : Int) ∧ Last (val la * val lb) o (I + m + 1) J ∧ TW w p q A A' I c m c' wr o) (fun jv _ => I + m - (intOf jv).toNat)
      case atStart => exact ⟨0, o, by omega, rfl, HL.out, HT.out⟩
      case round =>
        clear HL HT
        obtain ⟨J, o, hJ, rfl, hlast, htw⟩ := hrel
        by_cases hlj : J < I + m
        · have hol := hlast.len
          have hx := own_cell wr htw.g (j := J) (by omega)
          have hy := own_cell wr htw.g (j := J + 1) (by omega)
          have hf := own_free wr htw.g
          have hxt := hlast.at_
          have hyt := hlast.above (J + 1) (by omega)
          have hs := hlast.step (by omega) rfl rfl
          obtain ⟨t, et⟩ : ∃ t, t = o.getD J 0 := ⟨_, rfl⟩
          obtain ⟨y, ey⟩ : ∃ y, y = o.getD (J + 1) 0 := ⟨_, rfl⟩
          rw [← et] at hx hxt
          rw [← ey] at hy hyt
          rw [← et, ← ey] at hs
          obtain ⟨d, ed⟩ : ∃ d, d = t / 32768 := ⟨_, rfl⟩
          obtain ⟨z, ez⟩ : ∃ z, z = y + d := ⟨_, rfl⟩
          have hd0 : d ≤ 32770 := by omega
          have w0 : 0 ≤ (J : Int) := by omega
          have w0' : (J : Int) < (I : Int) + m + 1 := by omega
          have w6 : IntKind.i64.wrap ((J : Int) + 1) = (J : Int) + 1 := IntWalk.i64_in _ (by omega)
          have w7 : ((J : Int) + 1).toNat = J + 1 := by omega
          have w8' : 0 ≤ (J : Int) + 1 := by omega
          have w9 : (J : Int) + 1 < (I : Int) + m + 1 := by omega
          have w10 : (J : Int) < (I : Int) + m := by omega
          have w11 : IntKind.i64.wrap ((t : Int).tdiv 32768) = (d : Int) := by rw [IntWalk.i64_quo _ _ (by omega), ed]; omega
          have w12 : IntKind.i64.wrap ((y : Int) + d) = (z : Int) := by rw [IntWalk.i64_in _ (by omega), ez]; omega
          have ED := Lib.hid ed
          have EZ := Lib.hid ez
          have hM := Lib.hid hs
          have hT := Lib.hid htw
          have hss : o.set J t = o := by
            rw [et]
            have hj : J < o.length := by omega
            rw [List.getD_eq_getElem?_getD, List.getElem?_eq_getElem hj]
            exact List.set_getElem_self hj
          have HSS := Lib.hid hss
          clear hss
          have hdd : ((t % 32768 : Nat) : Int) = (t : Int) % 32768 := by omega
          have HDD := Lib.hid hdd
          clear ed ez et ey hs htw hlast hol hdd
          go_wp2
          go_still_tail 15, (by kernel_rfl)
          change wpList _ _ _ _ _ wr.drew
          go_wp2
          go_roundw
          case rel =>
            have hT3 := ((hT.out.set (J + 1) z).set J (t % 32768)).drew
            rw [HDD.out, EZ.out, ED.out, show ((y + t / 32768 : Nat) : Int) = (y : Int) + (t : Int) / 32768 by omega] at hT3
            refine ⟨J + 1, _, by omega, by go_num, hM.out, ?_⟩
            unfold carry
            rw [HSS.out]
            exact hT3
          case measure => simp [intOf]; omega
        · obtain rfl : J = I + m := by omega
          obtain ⟨hok, hval⟩ := hlast.done rfl HX.out
          have hlen := hlast.len
          obtain ⟨c0, c1, -, -⟩ := box2 htw.b0
          obtain ⟨d0, d1, -, -⟩ := box2 htw.b1
          obtain ⟨e0, e1, f0, f1⟩ := box2 htw.b2
          have hdig : Dig wr wr.heap.size (some ⟨w.heap.size + 1 + 1 + 1, 0, none⟩) (I + m + 1) (I + m + 1) o :=
            ⟨hlen, Nat.le_refl _, fun h => by (cases h), hok, fun _ => ⟨_, 0, _, rfl, World.lt_of_heap htw.g, htw.g, fun j hj => by
              simp [cellsOf, List.getD_eq_getElem?_getD, List.getElem?_eq_getElem (show j < o.length by omega)]⟩⟩
          have hdig := hdig.below (Below.refl _ _).drew
          have HV := Lib.hid hval
          have HT := Lib.hid htw
          clear hlast hval hlen htw hok
          go_wp2
          go_region_held3 (fun w' => w'.cell? ⟨w.heap.size, 0, none⟩ = some (.bool p) ∧ w'.cell? ⟨w.heap.size + 1, 0, none⟩ = some (.bool q))
            (first | ((try dsimp only); refine ⟨?_, ?_⟩ <;> (first | (simp [*, World.cell?_setCell_far]; done) | (simp [go_sem, World.cell?_setCell_other, *]; done))))
            (first
              | (go_at_call 86
                 refine (trim_any _ _ _ _ o _ (by omega) (by exact hdig)).mono ?_
                 rintro e w2 ⟨⟨k, hk, rfl, hnum⟩, rfl⟩))
          have hnum2 := Lib.hid hnum
          have hx2 := Lib.hid HT.out.b2
          have hbl := Lib.hid HT.out.below
          clear hnum
          go_wp2
          refine bodyPost_ret (v := .agg #[.bool (!(p == q)), .slice (some ⟨w.heap.size + 1 + 1 + 1, 0, none⟩) k (I + m + 1)]) (by simp [results, Try.results51, go_sem, e0, e1]) rfl ⟨⟨_, k, _, hk, rfl, ?_⟩, ?_⟩
          · have h1 := hnum2.out.below (w' := wr) ⟨rfl, rfl, rfl, Nat.le_refl _, fun _ _ => rfl⟩
            rw [HV.out] at h1
            exact (((h1.far hx2.out (by decide) _).far (Blk.set_ hx2.out 0 _) (by decide) _).below (Below.refl _ _).drew).more (by simp)
          · exact ((hbl.out.setCell (by simp; omega) _).setCell (by simp; omega) _).drew
end Go.Proofs.Ytifjdfdjojkagaa
