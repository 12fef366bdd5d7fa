/- The walks through package coneyref01: trim, order, of. -/
import Derived.Test.YtifjdfdjojkagaaDig
import Derived.Test.YtifjdfdjojkagaaNum1
import Derived.Lib.Hide
import Derived.BigQuiet
import Derived.Deep.QuietTactic
import Derived.Deep.DeepMust
namespace Go.Proofs.Ytifjdfdjojkagaa
open Go.RowKit Dg

theorem take_val_zero (l : List Nat) (j : Nat) (hj : j < l.length) (h0 : l.getD j 0 = 0) : val (l.take (j + 1)) = val (l.take j) := by
  rw [List.take_succ_eq_append_getElem hj]
  rw [List.getD_eq_getElem?_getD, List.getElem?_eq_getElem hj] at h0
  simp only [Option.getD_some] at h0
  rw [h0, val_drop_snoc_zero]
theorem take_norm (l : List Nat) (j : Nat) (hj : j < l.length) (h0 : ¬ l.getD j 0 = 0) : Norm (l.take (j + 1)) := by
  intro d hd
  rw [List.take_succ_eq_append_getElem hj] at hd
  rw [List.getD_eq_getElem?_getD, List.getElem?_eq_getElem hj] at h0
  simp only [Option.getD_some] at h0
  simp only [List.getLast?_append, List.getLast?_singleton, Option.some_or, Option.some.injEq] at hd
  omega
theorem ret1 {u v : Value} (h : u = v) : Ending.returned u = .returned v := by rw [h]

set_option maxHeartbeats 400000 in
theorem trim_any (A : Option Addr) (n c B : Nat) (l : List Nat) (w : World) (hn : n ≤ 4000000) (hd : Dig w B A n c l) :
    Calls Try.prog 86 #[.slice A n c] w fun e w' => (∃ k, k ≤ n ∧ e = .returned (.slice A k c) ∧ Num w B A k c (val l)) ∧ w = w' := by
  have hlen := hd.len
  have hcap := hd.cap
  have hcells := Lib.hid hd.cells
  go_enter Try.func86, Try.ntmps86
  go_wp2
  go_loop [0] (fun v => ∃ k : Nat, k ≤ n ∧ v = .slice A k c ∧ val (l.take k) = val l) (fun v => match v with | .slice _ k _ => k | _ => 0)
  case atStart => exact ⟨n, Nat.le_refl _, rfl, by rw [List.take_of_length_le (by omega)]⟩
  case round =>
    obtain ⟨k, hk, rfl, hv⟩ := hrel
    have HV := Lib.hid hv
    clear hv
    rcases k with _ | j
    · go_wp2
      go_ret
      have hv := HV.out
      exact ⟨⟨0, by omega, rfl, l.take 0, hd.take (by omega), by intro d hd; simp at hd, hv⟩, rfl⟩
    · obtain ⟨b, off, rfl, hb, hc⟩ := hcells.out (by omega)
      have hcj := hc j (by omega)
      clear hc
      by_cases h0 : l.getD j 0 = 0
      · rw [h0] at hcj
        have HT := Lib.hid (take_val_zero l j (by omega) h0)
        clear h0
        go_wp2
        go_round
        case rel => exact ⟨j, by omega, rfl, by rw [← HT.out, HV.out]⟩
        case measure => simp
      · have HN := Lib.hid (take_norm l j (by omega) h0)
        obtain ⟨d, hd'⟩ : ∃ d, d = l.getD j 0 := ⟨_, rfl⟩
        rw [← hd'] at hcj h0
        have h1 : ((d : Int) == 0) = false := by simp; omega
        clear hd' h0
        go_wp2
        go_ret
        exact ⟨⟨j + 1, hk, rfl, l.take (j + 1), hd.take hk, HN.out, HV.out⟩, rfl⟩

/-- Which of two numbers is greater. -/
def cmpN (x y : Nat) : Int := if x < y then -1 else if y < x then 1 else 0
theorem cmpN_lt {x y : Nat} (h : x < y) : cmpN x y = -1 := by unfold cmpN; rw [if_pos h]
theorem cmpN_gt {x y : Nat} (h : y < x) : cmpN x y = 1 := by unfold cmpN; rw [if_neg (by omega), if_pos h]
theorem cmpN_eq (x : Nat) : cmpN x x = 0 := by unfold cmpN; simp

theorem drop_eq_of {la lb : List Nat} {j : Nat} (hl : la.length = lb.length) (hj : j < la.length) (h : la.drop (j + 1) = lb.drop (j + 1)) (he : la.getD j 0 = lb.getD j 0) : la.drop j = lb.drop j := by
  rw [List.drop_eq_getElem_cons hj, List.drop_eq_getElem_cons (show j < lb.length by omega), h]
  rw [List.getD_eq_getElem?_getD, List.getD_eq_getElem?_getD, List.getElem?_eq_getElem hj, List.getElem?_eq_getElem (show j < lb.length by omega)] at he
  simp only [Option.getD_some] at he
  rw [he]

set_option maxHeartbeats 1000000 in
theorem order_any (A A' : Option Addr) (n c m c' B M N : Nat) (w : World) (hn : n ≤ 1000000) (hm : m ≤ 1000000) (hB : B ≤ w.heap.size) (ha : Num w B A n c M) (hb : Num w B A' m c' N) :
    Calls Try.prog 83 #[.slice A n c, .slice A' m c'] w fun e w' => e = .returned (.int .i64 (cmpN M N)) ∧ Below w.heap.size w w' := by
  obtain ⟨la, da, na, rfl⟩ := ha
  obtain ⟨lb, db, nb, rfl⟩ := hb
  have hla := da.len
  have hlb := db.len
  by_cases hlt : n < m
  · have hc := Lib.hid (cmpN_lt (val_lt_of_length da.ok nb (by omega)))
    have hne : ((n : Int) != m) = true := by simp; omega
    clear hla hlb
    go_enter Try.func83, Try.ntmps83
    go_wp2
    go_ret
    exact ⟨ret1 (vint hc.out.symm), Below.refl _ _⟩
  by_cases hgt : m < n
  · have hc := Lib.hid (cmpN_gt (val_lt_of_length db.ok na (by omega)))
    have hne : ((n : Int) != m) = true := by simp; omega
    clear hla hlb
    go_enter Try.func83, Try.ntmps83
    go_wp2
    go_ret
    exact ⟨ret1 (vint hc.out.symm), Below.refl _ _⟩
  obtain rfl : n = m := by omega
  have hca := Lib.hid da.cells
  have hcb := Lib.hid db.cells
  have HL := Lib.hid (hla.trans hlb.symm)
  have HA := Lib.hid hla
  clear hla hlb hlt hgt
  go_enter Try.func83, Try.ntmps83
  go_wp2
  go_loopw [5] (fun v wr => ∃ (k : Nat) (i : Int), k ≤ n ∧ i = (k : Int) - 1 ∧ v = .int .i64 i ∧ la.drop k = lb.drop k ∧ Below w.heap.size w wr) (fun v _ => (intOf v + 1).toNat)
  case atStart => exact ⟨n, _, Nat.le_refl _, rfl, rfl, by rw [List.drop_eq_nil_of_le (by rw [HA.out]; omega), List.drop_eq_nil_of_le (by rw [← HL.out, HA.out]; omega)], Below.refl _ _⟩
  case round =>
    obtain ⟨k, i, hk, hi, rfl, hdr, hw⟩ := hrel
    have HD := Lib.hid hdr
    clear hdr
    rcases k with _ | j
    · obtain rfl : i = -1 := by omega
      clear hi
      go_wp2
      go_ret
      have hv := HD.out
      simp only [List.drop_zero] at hv
      exact ⟨ret1 (vint (by rw [hv, cmpN_eq])), hw⟩
    · obtain rfl : i = (j : Int) := by omega
      clear hi
      obtain ⟨b, off, rfl, hb, hc⟩ := hca.out (by omega)
      obtain ⟨b', off', rfl, hb', hc'⟩ := hcb.out (by omega)
      have hcj := (hw.cell (p := ⟨b, off + j, none⟩) (show b < w.heap.size by omega)).trans (hc j (by omega))
      have hcj' := (hw.cell (p := ⟨b', off' + j, none⟩) (show b' < w.heap.size by omega)).trans (hc' j (by omega))
      clear hc hc'
      have HX : Hid (j < la.length) := by have := HA.out; exact (by omega : j < la.length)
      have HE : la.getD j 0 = lb.getD j 0 → Hid (la.drop j = lb.drop j) := fun he => drop_eq_of HL.out HX HD.out he
      have HLt : la.getD j 0 < lb.getD j 0 → Hid (cmpN (val la) (val lb) = -1) := fun he => cmpN_lt (val_lt_of_digit da.ok HL.out HD.out HX he)
      have HGt : lb.getD j 0 < la.getD j 0 → Hid (cmpN (val la) (val lb) = 1) := fun he => cmpN_gt (val_lt_of_digit db.ok HL.out.symm HD.out.symm (by have := HL.out; have := HX.out; omega) he)
      obtain ⟨d, hd⟩ : ∃ d, d = la.getD j 0 := ⟨_, rfl⟩
      obtain ⟨d', hd'⟩ : ∃ d, d = lb.getD j 0 := ⟨_, rfl⟩
      rw [← hd] at hcj HE HLt HGt
      rw [← hd'] at hcj' HE HLt HGt
      clear hd hd'
      rcases Nat.lt_trichotomy d d' with h1 | h1 | h1
      · have hv := HLt h1
        clear HE HLt HGt
        go_wp2
        go_quiet (fail)
        go_wp2
        go_ret
        exact ⟨ret1 (vint hv.out.symm), by first | exact below_drewN hw _ | exact below_drewN (below_drewN hw _) _⟩
      · have hv := HE h1
        subst h1
        clear HE HLt HGt
        go_wp2
        go_quiet (fail)
        go_wp2
        go_quiet (fail)
        go_wp2
        go_roundw
        case rel => exact ⟨j, _, by omega, rfl, rfl, hv.out, below_drewN hw _⟩
        case measure => simp [intOf]
      · have hv := HGt h1
        clear HE HLt HGt
        go_wp2
        go_quiet (fail)
        go_wp2
        go_quiet (fail)
        go_wp2
        go_ret
        exact ⟨ret1 (vint hv.out.symm), by first | exact below_drewN hw _ | exact below_drewN (below_drewN hw _) _⟩
end Go.Proofs.Ytifjdfdjojkagaa
