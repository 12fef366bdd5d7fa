/- The reference's Print and Parse of integers: that they return. The reference's parser: integer and variable. -/
import Derived.Test.YtibcpdmeigdgpaaGreatDoorKHa
import Derived.Test.YtibcpdmeigdgpaaGreatDoorKGb
import Derived.Lib.Bytes
import Derived.BigQuiet
import Derived.Deep.QuietTactic
import Derived.Deep.DeepMust
import Derived.WalkSpells
import Derived.Test.YtibcpdmeigdgpaaGreatDoorKRd5
namespace Go.Proofs.YtibcpdmeigdgpaaGreatDoor
open Go.RowKit
theorem p10_small {N k : Nat} (h : N * 10 ^ k ≤ 9223372036854775808) (hN : 9 < N) : k ≤ 18 := by
 rcases Nat.lt_or_ge k 19 with h1 | h1
 ·omega
 ·exfalso
  have h2 : 10 ^ 19 ≤ 10 ^ k := Nat.pow_le_pow_right (by omega) h1
  have h3 : 10 * 10 ^ k ≤ N * 10 ^ k := Nat.mul_le_mul_right _ (by omega)
  have h4 : (10 : Nat) ^ 19 = 10000000000000000000 := by decide
  omega
theorem pow_step {N k : Nat} (h : N * 10 ^ k ≤ 9223372036854775808) : N / 10 * 10 ^ (k + 1) ≤ 9223372036854775808 := by
 refine Nat.le_trans ?_ h
 rw [Nat.pow_succ, Nat.mul_comm (10 ^ k) 10, ← Nat.mul_assoc]
 exact Nat.mul_le_mul_right _ (Nat.div_mul_le_self N 10)
theorem dig_one : ∀ d, d < 10 → (⟨#[48, 49, 50, 51, 52, 53, 54, 55, 56, 57]⟩ : ByteArray).extract d (d + 1) = ⟨#[UInt8.ofNat (48 + d)]⟩ := by decide
structure PrRel (nv sv : Value) (N0 N k : Nat) (t : ByteArray) : Prop where
 hn : nv = .int .u64 (N : Int)
 hs : sv = .string t
 hk : t.size = k
 up : k ≤ 19
 pow : N * 10 ^ k ≤ 9223372036854775808
 dec : Hid (Lib.decDigits N0 = Lib.decDigits N ++ t.data.toList)
theorem PrRel.step {N0 N : Nat} {t : ByteArray} (h : Lib.decDigits N0 = Lib.decDigits N ++ t.data.toList) (h9 : 9 < N) {u : ByteArray} (hu : u = (⟨#[48, 49, 50, 51, 52, 53, 54, 55, 56, 57]⟩ : ByteArray).extract (N % 10) (N % 10 + 1)) : Lib.decDigits N0 = Lib.decDigits (N / 10) ++ (u ++ t).data.toList := by
 rw [h, Lib.decDigits, dif_neg (by omega), hu, dig_one _ (by omega)]
 simp
theorem print_end {a : Int} {N : Nat} {t : ByteArray} (h : Lib.decDigits a.natAbs = Lib.decDigits N ++ t.data.toList) (h9 : ¬ 9 < N) {u sg : ByteArray} (hu : u = (⟨#[48, 49, 50, 51, 52, 53, 54, 55, 56, 57]⟩ : ByteArray).extract N (N + 1)) (hs : sg = if a < 0 then ⟨#[45]⟩ else ⟨#[]⟩) : (sg ++ u ++ t).data.toList = Lib.itoa a := by
 have e : Lib.decDigits N = [UInt8.ofNat (48 + N)] := Lib.decDigits_one (by omega)
 rw [hs, hu, dig_one _ (by omega)]
 unfold Lib.itoa
 by_cases ha : a < 0
 ·rw [if_pos ha, if_pos ha, h, e]; simp
 ·rw [if_neg ha, if_neg ha, show a.toNat = a.natAbs by omega, h, e]; simp
set_option maxRecDepth 100000 in
set_option maxHeartbeats 1000000 in
theorem rprint_any (a : Int) (w : World) (ha : -9223372036854775808 ≤ a) (ha' : a ≤ 9223372036854775807) : Calls Tryz.prog 108 #[.int .i64 a] w fun e w' => (∃ t, e = .returned (.string t) ∧ t.data.toList = Lib.itoa a) ∧ w = w' := by
 by_cases hs : a < 0
 all_goals
  have HS := Lib.hid hs
  go_enter Tryz.func108, Tryz.ntmps108
  go_wp2
  go_loopw [3, 5] (fun nv sv wr => (∃ N k t, PrRel nv sv a.natAbs N k t) ∧ w = wr) (fun nv _ _ => (intOf nv).toNat)
  case atStart => exact ⟨⟨a.natAbs, 0, ⟨#[]⟩, ⟨by first | (congr 1; omega) | rfl, rfl, rfl, by omega, by omega, Lib.hid (by simp)⟩⟩, rfl⟩
  case round =>
   obtain ⟨⟨N, k, t, hr⟩, rfl⟩ := hrel
   obtain rfl := hr.hn
   obtain rfl := hr.hs
   have R := Lib.hid hr
   have hk := hr.hk
   have hup := hr.up
   have htop : N ≤ 9223372036854775808 := Nat.le_trans (Nat.le_mul_of_pos_right N (Nat.pow_pos (by omega))) hr.pow
   clear hr ha ha' hs
   by_cases h9 : 9 < N
   ·have h9' : (9 : Int) < (N : Int) := by omega
    have hk18 := p10_small R.out.pow h9
    have hL : ({ data := #[48, 49, 50, 51, 52, 53, 54, 55, 56, 57] } : ByteArray).size = 10 := rfl
    go_wp2
    go_roundw
    case rel => exact ⟨⟨N / 10, k + 1, _, ⟨by go_num, rfl, by rw [ByteArray.size_append, ByteArray.size_extract, hL]; omega, by omega, pow_step R.out.pow, Lib.hid (PrRel.step R.out.dec.out h9 (by first | rfl | (congr 1 <;> omega)))⟩⟩, by trivial⟩
    case measure => simp [intOf]; omega
   ·have h9' : ¬ (9 : Int) < (N : Int) := by omega
    go_wp2
    go_ret
    exact ⟨⟨_, rfl, print_end R.out.dec.out h9 (by first | rfl | (congr 1 <;> omega)) (by simp [HS.out])⟩, rfl⟩
def I64 (n : Int) : Prop := -9223372036854775808 ≤ n ∧ n ≤ 9223372036854775807
theorem i64_wrap (x : Int) : I64 (wrap64 x) := by
 unfold I64 wrap64
 omega
theorem digF_snoc (l : List UInt8) (c : UInt8) (n : Int) : digF (l ++ [c]) n = digS (digF l n) c := by simp [digF]
theorem digF_take {s : ByteArray} {i : Nat} (h : i < s.size) : digF (s.data.toList.take (i + 1)) 0 = digS (digF (s.data.toList.take i) 0) (bu s i) := by
 have h' : i < s.data.toList.length := by rw [Array.length_toList]; exact h
 rw [List.take_succ_eq_append_getElem h', digF_snoc]
 congr 1
 unfold bu
 rw [List.getD_eq_getElem?_getD, List.getElem?_eq_getElem h']
 rfl
theorem digF_all (s : ByteArray) : digF (s.data.toList.take s.size) 0 = digF s.data.toList 0 := by
 rw [List.take_of_length_le (by rw [Array.length_toList]; exact Nat.le_refl _)]
theorem eq_or_ne_str (t s : ByteArray) : (t.toList == s.toList) = true ↔ t.data.toList = s.data.toList := by simp [Lib.toList_data]
theorem parseN_short {s : ByteArray} (h : s.size < 1 ∨ 20 < s.size) : parseN s = none := by unfold parseN; rw [if_pos h]
theorem parseN_some {s : ByteArray} (h : ¬ (s.size < 1 ∨ 20 < s.size)) {b : Int} (hb : b = if bn s 0 = 45 then wrap64 (-wrap64 (digF s.data.toList 0)) else wrap64 (digF s.data.toList 0)) (he : Lib.itoa b = s.data.toList) : parseN s = some b := by
 unfold parseN; rw [if_neg h]; dsimp only; rw [← hb, if_pos he]
theorem parseN_none {s : ByteArray} (h : ¬ (s.size < 1 ∨ 20 < s.size)) {b : Int} (hb : b = if bn s 0 = 45 then wrap64 (-wrap64 (digF s.data.toList 0)) else wrap64 (digF s.data.toList 0)) (he : ¬ Lib.itoa b = s.data.toList) : parseN s = none := by
 unfold parseN; rw [if_neg h]; dsimp only; rw [← hb, if_neg he]
theorem digS_digit {s : ByteArray} {i : Nat} {n : Int} (h1 : 48 ≤ (bn s i : Int)) (h2 : (bn s i : Int) ≤ 57) : digS n (bu s i) = (n * 10 + ((bn s i : Int) - 48)) % 18446744073709551616 := by
 exact if_pos ⟨h1, h2⟩
theorem digS_other {s : ByteArray} {i : Nat} {n : Int} (h : ¬ (48 ≤ (bn s i : Int) ∧ (bn s i : Int) ≤ 57)) : digS n (bu s i) = n := if_neg h
set_option maxRecDepth 100000 in
set_option maxHeartbeats 1000000 in
theorem rparse_any (s : ByteArray) (w : World) : Calls Tryz.prog 90 #[.string s] w fun e w' =>
 (∃ n er, e = .returned (.tuple #[.int .i64 n, .int .i64 er]) ∧ I64 n ∧ Hid ((er = 0 ∧ parseN s = some n) ∨ (er = 12 ∧ n = 0 ∧ parseN s = none))) ∧ w = w' := by
 have hb : ∀ (i : Nat) (h : i < s.size), (s[i]'h).toNat = bn s i := bn_eq s
 by_cases h1 : (s.size : Int) < 1
 ·go_enter Tryz.func90, Tryz.ntmps90
  go_wp2
  go_ret2
  exact ⟨⟨0, 12, rfl, by unfold I64; omega, Lib.hid (.inr ⟨rfl, rfl, parseN_short (by omega)⟩)⟩, rfl⟩
 by_cases h20 : (20 : Int) < (s.size : Int)
 ·go_enter Tryz.func90, Tryz.ntmps90
  go_wp2
  go_ret2
  exact ⟨⟨0, ⟨12, rfl, by unfold I64; omega, Lib.hid (.inr ⟨rfl, rfl, parseN_short (by omega)⟩)⟩⟩, rfl⟩
 have h0 : 0 < s.size := by omega
 have HZ := Lib.hid (show ¬ (s.size < 1 ∨ 20 < s.size) by omega)
 go_enter Tryz.func90, Tryz.ntmps90
 go_wp2
 go_loopw [4, 5] (fun nv iv wr => (∃ (N : Int) (i : Nat), nv = .int .u64 N ∧ iv = .int .i64 (i : Int) ∧ i ≤ s.size ∧ Hid (N = digF (s.data.toList.take i) 0)) ∧ w = wr) (fun _ iv _ => s.size - (intOf iv).toNat)
 case atStart => exact ⟨⟨0, 0, rfl, rfl, by omega, Lib.hid rfl⟩, rfl⟩
 case round =>
  obtain ⟨⟨N, i, rfl, rfl, hi, hN⟩, rfl⟩ := hrel
  by_cases hlt : i < s.size
  ·have hlt' : (i : Int) < (s.size : Int) := by omega
   by_cases hlo : 48 ≤ (bn s i : Int)
   ·by_cases hhi : (bn s i : Int) ≤ 57
    ·go_wp2
     go_roundw
     case rel => exact ⟨⟨_, i + 1, rfl, by go_num, hlt, Lib.hid (by rw [digF_take hlt, digS_digit hlo hhi, ← hN.out]; simp only [IntKind.wrap_u64]; omega)⟩, by trivial⟩
     case measure => simp [intOf]; omega
    ·go_wp2
     go_roundw
     case rel => exact ⟨⟨_, i + 1, rfl, by go_num, hlt, Lib.hid (by rw [digF_take hlt, digS_other (by omega), ← hN.out])⟩, by trivial⟩
     case measure => simp [intOf]; omega
   ·go_wp2
    go_roundw
    case rel => exact ⟨⟨_, i + 1, rfl, by go_num, hlt, Lib.hid (by rw [digF_take hlt, digS_other (by omega), ← hN.out])⟩, by trivial⟩
    case measure => simp [intOf]; omega
  ·obtain rfl : i = s.size := by omega
   cases h45 : ((bn s 0 : Int) == 45) with
   | true =>
    have hx := Lib.hid (i64_wrap (-wrap64 N))
    have HB := Lib.hid (show wrap64 (-wrap64 N) = if bn s 0 = 45 then wrap64 (-wrap64 (digF s.data.toList 0)) else wrap64 (digF s.data.toList 0) by
     rw [hN.out, digF_all, if_pos (by simp at h45; omega)])
    go_wp2_with fail
    refine (rprint_any _ _ hx.out.1 hx.out.2).mono ?_
    rintro e w1 ⟨⟨t, rfl, ht⟩, rfl⟩
    have HT := Lib.hid ht
    clear ht
    cases hts : (t.toList == s.toList) with
    | false =>
     go_wp2_with fail
     go_ret2
     exact ⟨⟨0, 12, rfl, by unfold I64; omega, Lib.hid (.inr ⟨rfl, rfl, parseN_none HZ.out HB.out (by rw [← HT.out]; intro e; rw [(eq_or_ne_str t s).2 e] at hts; cases hts)⟩)⟩, rfl⟩
    | true =>
     go_wp2_with fail
     go_ret2
     exact ⟨⟨_, 0, rfl, hx.out, Lib.hid (.inl ⟨rfl, parseN_some HZ.out HB.out (by rw [← HT.out]; exact (eq_or_ne_str t s).1 hts)⟩)⟩, rfl⟩
   | false =>
    have hx := Lib.hid (i64_wrap N)
    have HB := Lib.hid (show wrap64 N = if bn s 0 = 45 then wrap64 (-wrap64 (digF s.data.toList 0)) else wrap64 (digF s.data.toList 0) by
     rw [hN.out, digF_all, if_neg (by intro h; rw [h] at h45; cases h45)])
    go_wp2_with fail
    refine (rprint_any _ _ hx.out.1 hx.out.2).mono ?_
    rintro e w1 ⟨⟨t, rfl, ht⟩, rfl⟩
    have HT := Lib.hid ht
    clear ht
    cases hts : (t.toList == s.toList) with
    | false =>
     go_wp2_with fail
     go_ret2
     exact ⟨⟨0, 12, rfl, by unfold I64; omega, Lib.hid (.inr ⟨rfl, rfl, parseN_none HZ.out HB.out (by rw [← HT.out]; intro e; rw [(eq_or_ne_str t s).2 e] at hts; cases hts)⟩)⟩, rfl⟩
    | true =>
     go_wp2_with fail
     go_ret2
     exact ⟨⟨_, 0, rfl, hx.out, Lib.hid (.inl ⟨rfl, parseN_some HZ.out HB.out (by rw [← HT.out]; exact (eq_or_ne_str t s).1 hts)⟩)⟩, rfl⟩
end Go.Proofs.YtibcpdmeigdgpaaGreatDoor
namespace Go.Proofs.YtibcpdmeigdgpaaGreatDoor
open Go.RowKit
def sumTo : Nat → (Nat → Nat) → Nat
 | 0, _ => 0
 | n + 1, f => sumTo n f + f n
def T.nodes : T → Nat
 | .nil => 0
 | .mk _ _ _ m a => 1 + sumTo m fun i => (a i).nodes
def T.good : T → Prop
 | .nil => False
 | .mk k n s m a => ((k = 1 ∧ 0 ≤ n ∧ n < 1000 ∧ s = ⟨#[]⟩ ∧ m = 0) ∨ (k = 2 ∧ I64 n ∧ s = ⟨#[]⟩ ∧ m = 0) ∨ (k = 3 ∧ n = 0 ∧ nameOk s ∧ m = 0) ∨ (k = 4 ∧ n = 0 ∧ nameOk s ∧ 0 < m)) ∧ ∀ i, i < m → (a i).good
def RetT (c : Rdc) (w : World) (i0 i : Nat) (pl er : Int) (res : PR T) (v : Value) (w' : World) : Prop :=
 ∃ j er' t ns' pl', Rd w' c j ns' pl' er' ∧ Fr c w w' ∧ i ≤ j ∧ TP w' (fun b => w.heap.size ≤ b) t v ∧ (er' = 0 → er = 0 ∧ t.good ∧ i0 + t.nodes ≤ j) ∧ Hid (Sp er pl er' pl' res (t, j, ns'))
theorem leaf_nodes (k n : Int) (s : ByteArray) (a : Nat → T) : (T.mk k n s 0 a).nodes = 1 := rfl
theorem Fr.put {c : Rdc} {w0 w : World} (h : Fr c w0 w) {g : Nat} (hg : w0.heap.size ≤ g) (hB : c.B ≤ w0.heap.size) {t : TypeId} {m : Nat × Nat} {u0 u1 u2 u3 : Value} (hb : w.heap[g]? = some (.cells #[u0, u1, u2, u3] t m)) (x0 x1 x2 x3 : Value) :
 Fr c w0 ((((w.setCell ⟨g, 0, none⟩ x0).setCell ⟨g, 1, none⟩ x1).setCell ⟨g, 2, none⟩ x2).setCell ⟨g, 3, none⟩ x3) := by
 obtain ⟨_, _, p2, p3⟩ := box_put4 hb x0 x1 x2 x3 rfl
 exact ⟨p3 _ _ (by omega) h.low, fun b cs t' m' hb' hR ht => (p2 b (by have := heap_lt hb'; omega)).trans (h.keep b cs t' m' hb' hR ht)⟩
theorem Rd.put {c : Rdc} {w : World} {i : Nat} {ns : List ByteArray} {pl er : Int} (h : Rd w c i ns pl er) {g : Nat} {m : Nat × Nat} {u0 u1 u2 u3 : Value} (hb : w.heap[g]? = some (.cells #[u0, u1, u2, u3] 39 m)) (x0 x1 x2 x3 : Value) :
 Rd ((((w.setCell ⟨g, 0, none⟩ x0).setCell ⟨g, 1, none⟩ x1).setCell ⟨g, 2, none⟩ x2).setCell ⟨g, 3, none⟩ x3) c i ns pl er := by
 have h1 : Rd (w.setCell ⟨g, 0, none⟩ x0) c i ns pl er := h.set_far hb 0 x0 (by decide) (by decide) (by decide)
 have b1 := blk_set hb 0 x0
 have h2 := h1.set_far b1 1 x1 (by decide) (by decide) (by decide)
 have b2 := blk_set b1 1 x1
 have h3 := h2.set_far b2 2 x2 (by decide) (by decide) (by decide)
 have b3 := blk_set b2 2 x2
 exact h3.set_far b3 3 x3 (by decide) (by decide) (by decide)
theorem ba_eq (s : ByteArray) : ba s.data.toList = s := by apply ByteArray.ext; simp [ba]
theorem ba_data (l : List UInt8) : (ba l).data.toList = l := by simp [ba]
theorem data_bu {s : ByteArray} (h : 0 < s.size) : s.data.toList = bu s 0 :: s.data.toList.drop 1 := by
 have := drop_bu (s := s) (i := 0) h
 simpa using this
theorem zeros_step {s : ByteArray} (h1 : 1 < s.size) (h48 : bn s 0 = 48) : zerosL s.data.toList = zerosL (s.extract 1 s.size).data.toList := by
 have hc : bu s 0 = 48 := by apply UInt8.toNat_inj.1; exact h48
 have e : (s.extract 1 s.size).data.toList = s.data.toList.drop 1 := by
  simp only [ByteArray.data_extract, Array.toList_extract, List.extract]
  rw [List.take_of_length_le]
  rw [List.length_drop, Array.length_toList]
  exact Nat.le_refl _
 rw [e, data_bu (by omega), drop_bu (i := 1) h1, zerosL, if_pos hc]
 simp
theorem zeros_stop {s : ByteArray} (h : ¬ (1 < s.size ∧ bn s 0 = 48)) : zerosL s.data.toList = s.data.toList := by
 rcases Nat.lt_or_ge 1 s.size with h1 | h1
 ·have hc : bu s 0 ≠ 48 := fun e => h ⟨h1, by rw [bn_bu, e]; rfl⟩
  rw [data_bu (by omega), drop_bu (i := 1) h1, zerosL, if_neg hc]
 ·rcases hl : s.data.toList with _ | ⟨c, _ | ⟨d, l⟩⟩
  ·rfl
  ·rfl
  ·exfalso
   have : s.data.toList.length = s.size := Array.length_toList
   rw [hl] at this
   simp at this
   omega
theorem int_sp {x : Tk} {below : Bool} {s s' : ByteArray} {n er2 : Int} {j : Nat} {ns : List ByteArray} (hz : zerosL x.t.data.toList = s.data.toList) (hs : s' = if below = true ∧ s.data.toList ≠ [48] then ⟨#[45]⟩ ++ s else s) (hp : (er2 = 0 ∧ parseN s' = some n) ∨ (er2 = 12 ∧ n = 0 ∧ parseN s' = none)) :
 intP x below j ns = if er2 = 0 then .ok (inT n, j, ns) else .error ((x.a : Int), 51) := by
 have e : ba (if below = true ∧ zerosL x.t.data.toList ≠ [48] then 45 :: zerosL x.t.data.toList else zerosL x.t.data.toList) = s' := by
  rw [hs, hz]
  split
  ·apply ByteArray.ext; simp [ba]
  ·exact ba_eq s
 unfold intP intN
 rw [e]
 rcases hp with ⟨h1, h2⟩ | ⟨h1, _, h2⟩
 ·rw [h2, if_pos h1]
 ·rw [h2, if_neg (by omega)]
set_option maxRecDepth 100000 in
set_option maxHeartbeats 4000000 in
theorem integer_any {c : Rdc} {i i0 : Nat} {ns : List ByteArray} {pl er : Int} (x : Tk) (bl : Bool) (w : World) (h : Rd w c i ns pl er) (ht : x.t.size ≤ 4096) (hi : i0 + 1 ≤ i) :
 Calls Tryz.prog 68 #[.pointer (some ⟨c.R, 0, none⟩), .agg #[.int .i64 x.k, .string x.t, .int .i64 (x.a : Int), .int .i64 (x.b : Int)], .bool bl] w fun e w' =>
  ∃ v, e = .returned v ∧ RetT c w i0 i pl er (intP x bl i ns) v w' := by
 have H := Lib.hid h
 clear h
 obtain ⟨k, tx, a, b⟩ := x
 have B2 := Lib.hid (((Below.refl w.heap.size w).alloc (Nat.le_refl _) (Obj.cells #[.int .i64 k, .string tx, .int .i64 (a : Int), .int .i64 (b : Int)] 83)).alloc (by simp) (Obj.cells #[.int .i64 0, .int .i64 0, .string ⟨#[]⟩, .slice none 0 0] 39))
 have t0 := Lib.hid ((Below.heap_alloc (w.alloc (Obj.cells #[.int .i64 k, .string tx, .int .i64 (a : Int), .int .i64 (b : Int)] 83)) (Obj.cells #[.int .i64 0, .int .i64 0, .string ⟨#[]⟩, .slice none 0 0] 39) w.heap.size (by simp)).trans (heap_alloc_new w _))
 go_enter Tryz.func68, Tryz.ntmps68
 go_wp2_with fail
 go_loopw [7] (fun sv wr => (∃ s : ByteArray, sv = .string s ∧ s.size ≤ 4096 ∧ Hid (zerosL tx.data.toList = zerosL s.data.toList)) ∧ wr = (w.alloc (Obj.cells #[.int .i64 k, .string tx, .int .i64 (a : Int), .int .i64 (b : Int)] 83)).alloc (Obj.cells #[.int .i64 0, .int .i64 0, .string ⟨#[]⟩, .slice none 0 0] 39)) (fun sv _ => match sv with | .string s => s.size | _ => 0)
 case atStart => exact ⟨⟨tx, rfl, ht, Lib.hid rfl⟩, rfl⟩
 case round =>
  obtain ⟨⟨s, rfl, hs, hz⟩, rfl⟩ := hrel
  have hb : ∀ (i : Nat) (h : i < s.size), (s[i]'h).toNat = bn s i := bn_eq s
  by_cases hcont : 1 < s.size ∧ bn s 0 = 48
  ·obtain ⟨h1, h48⟩ := hcont
   have h1' : (1 : Int) < (s.size : Int) := by omega
   have h48' : ((bn s 0 : Int) == 48) = true := by simp; omega
   have HZ := Lib.hid (show zerosL tx.data.toList = zerosL (s.extract 1 s.size).data.toList by rw [hz.out, zeros_step h1 h48])
   clear h48
   go_wp2
   go_roundw
   case rel => exact ⟨⟨_, rfl, by rw [ByteArray.size_extract]; omega, HZ⟩, by trivial⟩
   case measure => simp; omega
  ·have HZ := Lib.hid (show zerosL tx.data.toList = s.data.toList by rw [hz.out, zeros_stop hcont])
   have HC := Lib.hid hcont
   have CP := fun s' => rparse_any s' ((w.alloc (Obj.cells #[.int .i64 k, .string tx, .int .i64 (a : Int), .int .i64 (b : Int)] 83)).alloc (Obj.cells #[.int .i64 0, .int .i64 0, .string ⟨#[]⟩, .slice none 0 0] 39))
   have CQ := Lib.hid CP
   clear CP hcont hz
   have tail : ∀ (s' : ByteArray), Hid (s' = if bl = true ∧ s.data.toList ≠ [48] then ⟨#[45]⟩ ++ s else s) → ∀ (n er2 : Int), Hid ((er2 = 0 ∧ parseN s' = some n) ∨ (er2 = 12 ∧ n = 0 ∧ parseN s' = none)) → Hid (intP ⟨k, tx, a, b⟩ bl i ns = if er2 = 0 then .ok (inT n, i, ns) else .error ((a : Int), 51)) :=
    fun s' hs' n er2 hp => Lib.hid (int_sp HZ.out hs'.out hp.out)
   have TL := Lib.hid tail
   clear tail
   by_cases h1 : (1 : Int) < (s.size : Int)
   all_goals
    first
    | (have h48 : ((bn s 0 : Int) == 48) = false := by
        have h2 := HC.out
        by_cases h3 : bn s 0 = 48
        ·exact absurd ⟨by omega, h3⟩ h2
        ·simp; omega)
    | skip
    cases s0 : (s.toList == [48])
   all_goals
    have HS0 := Lib.hid s0
    cases bl
   all_goals
    go_wp2_with fail
    refine (CQ.out _).mono ?_
    rintro e w1 ⟨⟨n, er2, rfl, hn, hp⟩, rfl⟩
    have HP := TL.out _ (Lib.hid (by have h := HS0.out; simp [Lib.toList_data] at h; simp [h])) n er2 hp
    have HN := Lib.hid hn
    clear hn hp
    by_cases he2 : er2 = 0
    ·have HP0 := Lib.hid (HP.out.trans (if_pos he2))
     subst he2
     go_wp2_with fail
     refine bodyPost_ret (v := .agg #[.int .i64 2, .int .i64 n, .string ⟨#[]⟩, .slice none 0 0]) (by simp [results, go_sem]) rfl ?_
     exact ⟨_, rfl, i, er, _, _, _, (H.out.alloc _).alloc _, Fr.of_below (((Below.refl _ _).alloc (Nat.le_refl _) _).alloc (by simp) _) H.out.base, Nat.le_refl _, TP.leaf _ _ 2 n ⟨#[]⟩, fun h => ⟨h, ⟨.inr (.inl ⟨rfl, HN.out, rfl, rfl⟩), fun i hi => absurd hi (by omega)⟩, by rw [leaf_nodes]; exact hi⟩, Lib.hid (by rw [HP0.out]; exact Sp.ok _ _ _)⟩
    ·have he2' : (er2 != 0) = true := by simpa using he2
     have HQ := Lib.hid (show intP ⟨k, tx, a, b⟩ _ i ns = .error ((a : Int), 51) from HP.out.trans (if_neg he2))
     go_wp2_with fail
     refine (fail_any _ 51 _ (by decide) (H.out.below B2.out)).mono ?_
     rintro e w3 ⟨rfl, ⟨er3, pl3, h3, hn3, hs3⟩, f3⟩
     have hbx := Lib.hid (f3.box (H.out.below B2.out) (b := w.heap.size + 1) ((congrArg _ (by simp)).trans (heap_alloc_new _ _)) (by decide) (by decide))
     have xf : ∀ j, w3.frozen? ⟨w.heap.size + 1, j, none⟩ = false := fun j => by simp [World.frozen?, hbx.out]
     obtain ⟨x0, x1, x2, x3⟩ := box4t hbx.out
     have H3 := Lib.hid h3
     have F3 := Lib.hid ((Fr.of_below B2.out H.out.base).trans f3)
     clear h3 f3
     go_wp2_with fail
     obtain ⟨p0, p1, p2, p3⟩ := box4t (box_put4 hbx.out (.int .i64 2) (.int .i64 n) (.string ⟨#[]⟩) (.slice none 0 0) rfl).1
     refine bodyPost_ret (v := .agg #[.int .i64 2, .int .i64 n, .string ⟨#[]⟩, .slice none 0 0]) (by simp [results, go_sem, p0, p1, p2, p3]) rfl ?_
     exact ⟨_, rfl, i, er3, _, _, _, H3.out.put hbx.out _ _ _ _, F3.out.put (by omega) H.out.base hbx.out _ _ _ _, Nat.le_refl _, TP.leaf _ _ 2 n ⟨#[]⟩, fun h => absurd h hn3, Lib.hid (by rw [HQ.out]; exact Sp.any (hs3.out ((), 0, [])) _)⟩
end Go.Proofs.YtibcpdmeigdgpaaGreatDoor
