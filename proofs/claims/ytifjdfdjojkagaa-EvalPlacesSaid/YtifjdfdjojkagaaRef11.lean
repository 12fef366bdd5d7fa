/- The walk through coneyref01.halves. -/
import Derived.Test.YtifjdfdjojkagaaRef10
import Derived.Laws.AppendOwnNone
namespace Go.Proofs.Ytifjdfdjojkagaa
open Go.RowKit Dg

/-- An empty row of the call's own is appended to: other slices read as they did. -/
theorem Num.besides {w w' : World} {B : Nat} {A : Option Addr} {n c N g : Nat} {t : TypeId} (h : Num w B A n c N) (hg : w.grownBy w' (some g)) (hB : B ≤ w.heap.size) (hrow : w.heap[g]? = some (.cells #[] t (0, 0))) : Num w' B A n c N := by
  obtain ⟨l, d, h2, h3⟩ := h
  refine ⟨l, ⟨d.len, d.cap, d.nil, d.ok, fun hn => ?_⟩, h2, h3⟩
  obtain ⟨b, off, cs, hA, hb, hh, hc⟩ := d.blk hn
  refine ⟨b, off, cs, hA, hb, (hg.block b (by omega) ?_).trans hh, hc⟩
  intro he
  injection he with he
  subst he
  rw [hrow] at hh
  injection hh with hh
  injection hh with hcs
  subst hcs
  have := hc 0 hn
  simp at this

/-- What is left to do: the places below j of the quotient. -/
structure HalfRel (w : World) (A0 b0 : Nat) (av qv iv : Value) (wr : World) (j : Nat) (i : Int) (a q : Nat) : Prop where
  hj : j ≤ 65
  hi : i = (j : Int) - 1
  hv : iv = .int .i64 i
  ha : ∃ A n c, n ≤ 1000 ∧ av = .slice A n c ∧ Num wr wr.heap.size A n c a
  hq : ∃ A n c, n ≤ 1000 ∧ qv = .slice A n c ∧ Num wr wr.heap.size A n c q
  sum : q * b0 + a = A0
  small : a < 2 ^ j * b0
  below : Below w.heap.size w wr
  row : wr.heap[w.heap.size + 1]? = some (.cells #[] 3 (0, 0))

theorem half_yes {a q b A j : Nat} (hs : q * b + a = A) (hl : a < 2 ^ (j + 1) * b) (h : 2 ^ j * b ≤ a) : (q + 2 ^ j) * b + (a - 2 ^ j * b) = A ∧ a - 2 ^ j * b < 2 ^ j * b := by
  rw [Nat.pow_succ, Nat.mul_comm (2 ^ j) 2, Nat.mul_assoc] at hl
  rw [Nat.add_mul]
  omega
theorem half_q {a q b A : Nat} (hb : 0 < b) (hs : q * b + a = A) : q ≤ A := by
  have : q * 1 ≤ q * b := Nat.mul_le_mul_left _ hb
  omega

set_option maxRecDepth 100000 in
set_option maxHeartbeats 4000000 in
theorem halves_any (A A' : Option Addr) (n c m c' B M N : Nat) (w : World) (hn : n ≤ 1000) (hm : m ≤ 1000) (hB : B ≤ w.heap.size) (ha : Num w B A n c M) (hb : Num w B A' m c' N) (hN : 0 < N) (hM : M < 2 ^ 65) :
    Calls Try.prog 54 #[.slice A n c, .slice A' m c'] w
      fun e w' => (∃ Q k r R l s, k ≤ 1000 ∧ l ≤ 1000 ∧ e = .returned (.tuple #[.slice Q k r, .slice R l s]) ∧ Num w' w'.heap.size Q k r (M / N) ∧ Num w' w'.heap.size R l s (M % N)) ∧ Below w.heap.size w w' := by
  have HM := Lib.hid hM
  have HN := Lib.hid hN
  clear hM hN
  go_enter Try.func54, Try.ntmps54
  go_wp2
  go_loopw [0, 6, 8, 9] (fun av qv iv _ wr => ∃ j i a q, HalfRel w M N av qv iv wr j i a q) (fun _ _ iv _ _ => (intOf iv + 1).toNat)
  case atStart =>
    have hbl : Below w.heap.size w ((w.alloc (Obj.cells #[] 3)).alloc (Obj.cells #[] 3)) := ((Below.refl _ _).alloc (Nat.le_refl _) _).alloc (by simp) _
    refine ⟨65, _, M, 0, by omega, rfl, rfl, ⟨A, n, c, hn, rfl, (ha.below (hbl.mono hB)).more (by simp; omega)⟩, ⟨_, 0, 0, by omega, rfl, [], ⟨rfl, by omega, fun h => by (cases h), Ok.nil, fun h => absurd h (by omega)⟩, by intro d hd; simp at hd, rfl⟩, by omega, ?_, hbl, heap_at _ _ (by simp)⟩
    have h1 : 2 ^ 65 * 1 ≤ 2 ^ 65 * N := Nat.mul_le_mul_left _ HN.out
    have := HM.out
    omega
  case round =>
    obtain ⟨j, i, a, q, hr⟩ := hrel
    obtain ⟨rA, rn, rc, hrn, rfl, hra⟩ := hr.ha
    obtain ⟨qA, qn, qc, hqn, rfl, hqa⟩ := hr.hq
    obtain rfl := hr.hv
    have hi := hr.hi
    have hj := hr.hj
    have hbel := hr.below
    have hsz := hbel.size
    have hrow := World.lt_of_heap hr.row
    rcases j with _ | j
    · obtain rfl : i = -1 := by omega
      have hrow2 := Lib.hid hr.row
      obtain ⟨l, hd, hnl, hv⟩ := hra
      have hlen := hd.len
      have HV := Lib.hid hv
      have hcells := Lib.hid hd.cells
      have hown := Lib.hid (ownsRow_empty wr 3 1 _ hr.row)
      have hdcap := hd.cap
      have hdnil := Lib.hid hd.nil
      have hlc : (cellsOf l).length = rn * 1 := by simp [cellsOf, hlen]
      have HLC := Lib.hid hlc
      have HLEN := Lib.hid hlen
      have hU : Hid (0 < rn → ∃ b off, rA = some ⟨b, off, none⟩ ∧ ∀ k u, (cellsOf l)[k]? = some u → wr.cell? ⟨b, off + k, none⟩ = some u) := by
        intro h0
        obtain ⟨b, off, hA, _, hc⟩ := hcells.out h0
        refine ⟨b, off, hA, fun k u hu => ?_⟩
        have hk : k < rn := by
          have := (List.getElem?_eq_some_iff.1 hu).1
          omega
        rw [hc k hk]
        have hkl : k < l.length := by rw [hlen]; exact hk
        simp [cellsOf, List.getElem?_eq_getElem hkl] at hu
        rw [← hu, List.getD_eq_getElem?_getD, List.getElem?_eq_getElem hkl]
        rfl
      have hO : Hid (∀ u ∈ cellsOf l, u.oneCell' = true) := by
        intro u hu; simp [cellsOf] at hu; obtain ⟨_, _, rfl⟩ := hu; rfl
      have hbel2 := Lib.hid hbel
      have hok := Lib.hid hd.ok
      have hnl2 := Lib.hid hnl
      have hq2 := Lib.hid hqa
      have hsum := Lib.hid hr.sum
      have hsmall := Lib.hid hr.small
      clear hi hr hv hbel hlc hlen hnl hqa hd
      go_wp2_with (at_builtin; go_must (refine wpList_append_cells _ rfl _ _ _ rfl elInt (w.heap.size + 1) _ _ _ rfl hown.out rA rn rc (cellsOf l) rfl hdnil.out hdcap HLC.out hU.out hO.out (by omega) (by unfold maxLen; omega) (by omega) ?_); intro v1 w1 hown1 hb1)
      simp only [Nat.zero_add, List.nil_append] at hown1
      obtain ⟨RA, RC, rfl, hdr⟩ := Dig.of_own hown1 hok.out
      have HB1 := Lib.hid hb1
      have HDR := Lib.hid hdr
      have hqw : Num w1 w1.heap.size qA qn qc q := (hq2.out.besides hb1 (Nat.le_refl _) hrow2.out).more hb1.size
      clear hb1 hown1 hdr
      go_wp2
      go_ret2
      have hs1 := hsum.out
      have hs2 := hsmall.out
      rw [Nat.pow_zero, Nat.one_mul] at hs2
      obtain ⟨hq1, hq3⟩ : q = M / N ∧ a = M % N := by
        have h1 : M / N = q ∧ M % N = a := (Nat.div_mod_unique HN.out).2 ⟨by rw [Nat.mul_comm N q, Nat.add_comm]; exact hs1, hs2⟩
        exact ⟨h1.1.symm, h1.2.symm⟩
      refine ⟨⟨qA, qn, qc, RA, rn, RC, hqn, hrn, rfl, ?_, ?_⟩, hbel2.out.grown HB1.out hsz (fun k hk => by have := ownBlock_ge hown.out k hk; omega)⟩
      · rw [← hq1]; exact hqw
      · rw [← hq3]
        exact ⟨l, HDR.out, hnl2.out, HV.out⟩
    · obtain rfl : i = (j : Int) := by omega
      have hb1 := (hb.below (hbel.mono hB)).more (B' := wr.heap.size) (by omega)
      have hsum := Lib.hid hr.sum
      have hsmall := Lib.hid hr.small
      have hrow2 := Lib.hid hr.row
      have hql := half_q HN.out hsum.out
      clear hr hi
      go_wp2_with fail
      refine (power_any j _ (by omega)).mono ?_
      rintro e w1 ⟨⟨PA, pk, pr, hpk, rfl, hP⟩, h1⟩
      have hpk2 : pk ≤ 5 := by omega
      clear hpk
      have hs1 := h1.size
      go_wp2_with fail
      refine (times_any false false PA A' pk pr m c' _ _ _ _ (by omega) (by omega) (Nat.le_refl _) hP ((hb1.below h1).more hs1)).mono ?_
      rintro e w2 ⟨⟨TA, tk, tr, htk, rfl, hT⟩, h2⟩
      have hs2 := h2.size
      have hfl := fld_wide1 false TA tk tr w2
      have hra2 := ((hra.below h1).more hs1).below h2
      have hqa2 := ((hqa.below h1).more hs1).below h2
      have hb2 := hbel.trans ((h1.mono hsz).trans (h2.mono (by omega)))
      have HB2 := Lib.hid hb2
      have h12 := Lib.hid (h1.trans (h2.mono hs1))
      clear hP hb1 h1 h2 hra hqa hbel hb2
      go_wp2_with fail
      refine (order_any TA rA tk tr rn rc w2.heap.size _ _ _ (by omega) (by omega) (Nat.le_refl _) hT (hra2.more hs2)).mono ?_
      rintro e w3 ⟨rfl, h3⟩
      have hs3 := h3.size
      have hT3 := hT.below (h3)
      have hra3 := hra2.below (h3.mono hs2)
      have hqa3 := hqa2.below (h3.mono hs2)
      have hb3 := HB2.out.trans (h3.mono (by omega))
      have hrow3 : w3.heap[w.heap.size + 1]? = some (.cells #[] 3 (0, 0)) := by
        rw [h3.block _ (by omega), h12.out.block _ (by omega)]
        exact hrow2.out
      clear h3 hT hra2 hqa2
      by_cases hle : 2 ^ j * N ≤ a
      · have hcm : cmpN (2 ^ j * N) a ≤ 0 := by unfold cmpN; split <;> (try split) <;> omega
        obtain ⟨g1, g2⟩ := half_yes hsum.out hsmall.out hle
        have G1 := Lib.hid g1
        have G2 := Lib.hid g2
        have HLE := Lib.hid hle
        have hb3' := Lib.hid hb3
        have hrow3' := Lib.hid hrow3
        clear g1 g2 hle hb3 hrow3
        go_wp2_with fail
        refine (less_any rA TA rn rc tk tr w3.heap.size _ _ _ (by omega) (by omega) (Nat.le_refl _) (hra3.more (by omega)) (hT3.more hs3) HLE.out).mono ?_
        rintro e w4 ⟨⟨DA, dk, dr, hdk, rfl, hD⟩, h4⟩
        have hs4 := h4.size
        go_wp2_with fail
        refine (power_any j _ (by omega)).mono ?_
        rintro e w5 ⟨⟨PA', pk', pr', hpk', rfl, hP'⟩, h5⟩
        have hpk2' : pk' ≤ 5 := by omega
        clear hpk'
        have hs5 := h5.size
        go_wp2_with fail
        refine (plus_any qA PA' qn qc pk' pr' w5.heap.size _ _ _ (by omega) (by omega) (Nat.le_refl _) (((hqa3.below (h4.mono (by omega))).below (h5.mono (by omega))).more (by omega)) hP').mono ?_
        rintro e w6 ⟨⟨SA, sk, sr, hsk, rfl, hS⟩, h6⟩
        have hs6 := h6.size
        have hD6 := ((hD.below h5).below (h6.mono hs5)).more (B' := w6.heap.size) (by omega)
        have hsk5 : sk ≤ 5 := hS.short (by
          have h1 := half_q HN.out G1.out
          have h2 := HM.out
          omega)
        have hb6 := Lib.hid (((hb3'.out.trans (h4.mono (by omega))).trans (h5.mono (by omega))).trans (h6.mono (by omega)))
        have hrow6 : Hid (w6.heap[w.heap.size + 1]? = some (.cells #[] 3 (0, 0))) := by
          show _ = _
          rw [h6.block _ (by omega), h5.block _ (by omega), h4.block _ (by omega)]
          exact hrow3'.out
        clear h4 h5 h6 hD hP' hra3 hqa3 hT3 hsk
        go_wp2
        go_roundw
        case rel => exact ⟨j, _, _, _, by omega, rfl, rfl, ⟨DA, dk, dr, by omega, rfl, hD6⟩, ⟨SA, sk, sr, by omega, rfl, hS⟩, G1.out, G2.out, hb6.out, hrow6.out⟩
        case measure => simp [intOf]
      · have hcm : 0 < cmpN (2 ^ j * N) a := by rw [cmpN_gt (by omega)]; decide
        have HLT : Hid (a < 2 ^ j * N) := (by omega : a < 2 ^ j * N)
        have hb3' := Lib.hid hb3
        have hrow3' := Lib.hid hrow3
        clear hle hb3 hrow3
        go_wp2
        go_roundw
        case rel => exact ⟨j, _, _, _, by omega, rfl, rfl, ⟨rA, rn, rc, by omega, rfl, hra3.more (by omega)⟩, ⟨qA, qn, qc, by omega, rfl, hqa3.more (by omega)⟩, hsum.out, HLT.out, hb3'.out, hrow3'.out⟩
        case measure => simp [intOf]
end Go.Proofs.Ytifjdfdjojkagaa
