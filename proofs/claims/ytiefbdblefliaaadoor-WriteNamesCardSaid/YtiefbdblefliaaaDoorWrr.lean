/- The walks through coneyref06.pair and text: the plain text. -/
import Derived.Test.YtiefbdblefliaaaDoorWr0
import Derived.Test.YtiefbdblefliaaaDoorLq1
import Derived.Deep.LoopGhost
namespace Go.Proofs.YtiefbdblefliaaaDoor
open Go.RowKit

theorem str_ba {t : ByteArray} {l : List UInt8} (h : t.data.toList = l) : t = ba l := by
  apply ByteArray.ext
  apply Array.toList_inj.1
  rw [h]
  simp [ba]
theorem ba_quote (s : ByteArray) : ba (quoteN s).data.toList = quoteN s := (str_ba rfl).symm
theorem cat2 (a b : ByteArray) : (a ++ b).data.toList = a.data.toList ++ b.data.toList := by simp
theorem ba_list (l : List UInt8) : (ba l).data.toList = l := by simp [ba]
theorem eq_str {s : ByteArray} {l : List UInt8} : (s.toList == l) = decide (s = ba l) := by
  rw [ByteArray.toList_eq, Bool.eq_iff_iff, beq_iff_eq, decide_eq_true_eq]
  exact ⟨fun h => str_ba h, fun h => by rw [h, ba_list]⟩
/-- What 'pair' answers. -/
def isPr (k : Int) (s : ByteArray) (m : Nat) : Bool := (k == 4) && (s.toList == [46]) && ((m : Int) == 2)
theorem isPr_iff {k : Int} {s : ByteArray} {m : Nat} : isPr k s m = true ↔ k = 4 ∧ s = dotS ∧ m = 2 := by
  unfold isPr
  rw [eq_str]
  simp only [Bool.and_eq_true, beq_iff_eq, decide_eq_true_eq, and_assoc]
  constructor
  · rintro ⟨h1, h2, h3⟩; exact ⟨h1, h2, by omega⟩
  · rintro ⟨h1, h2, h3⟩; exact ⟨h1, h2, by omega⟩
set_option maxRecDepth 100000 in
theorem pair_any (k n : Int) (s : ByteArray) (A : Option Addr) (m c : Nat) (w : World) :
    Calls Tryd.prog 45 #[.agg #[.int .i64 k, .int .i64 n, .string s, .slice A m c]] w fun e w' => e = .returned (.bool (isPr k s m)) ∧ Below w.heap.size w w' := by
  have BX := Lib.hid (belA (Below.refl w.heap.size w) (Obj.cells #[.int .i64 k, .int .i64 n, .string s, .slice A m c] 24))
  cases h1 : (k == 4) with
  | false =>
    have P := Lib.hid (show isPr k s m = false by unfold isPr; rw [h1]; rfl)
    go_enter Tryd.func45, Tryd.ntmps45
    go_wp2_with fail
    go_ret
    exact ⟨by rw [P.out]; rfl, BX.out⟩
  | true =>
    cases h2 : (s.toList == [46]) with
    | false =>
      have P := Lib.hid (show isPr k s m = false by unfold isPr; rw [h1, h2]; rfl)
      go_enter Tryd.func45, Tryd.ntmps45
      go_wp2_with fail
      go_ret
      exact ⟨by rw [P.out]; rfl, BX.out⟩
    | true =>
      have P := Lib.hid (show isPr k s m = ((m : Int) == 2) by unfold isPr; rw [h1, h2]; rfl)
      go_enter Tryd.func45, Tryd.ntmps45
      go_wp2_with fail
      go_ret
      exact ⟨by rw [P.out]; rfl, BX.out⟩
/-- A variable's text, by its name. -/
theorem nmV_some {nm : List ByteArray} {j : Nat} (h : j < nm.length) (h1 : ((nm[j]'h).toList == []) = false) (h2 : ((nm[j]'h).toList == [95]) = false) : nmV nm (j : Int) = (nm[j]'h).data.toList := by
  unfold nmV
  rw [show ((j : Int)).toNat = j from rfl, List.getElem?_eq_getElem h]
  dsimp only
  rw [eq_str] at h1 h2
  have h1 := of_decide_eq_false h1
  have h2 := of_decide_eq_false h2
  rw [if_neg]
  rintro (h3 | h3)
  · apply h1
    apply ByteArray.ext
    exact Array.size_eq_zero_iff.1 h3
  · exact h2 (by rw [h3]; rfl)
theorem nmV_none {nm : List ByteArray} {j : Nat} (h : j < nm.length) (h1 : ((nm[j]'h).toList == []) = true ∨ ((nm[j]'h).toList == [95]) = true) : nmV nm (j : Int) = 95 :: Lib.itoa (j : Int) := by
  unfold nmV
  rw [show ((j : Int)).toNat = j from rfl, List.getElem?_eq_getElem h]
  dsimp only
  rw [eq_str, eq_str, decide_eq_true_eq, decide_eq_true_eq] at h1
  rw [if_pos]
  rcases h1 with h1 | h1
  · exact .inl (by rw [h1]; rfl)
  · exact .inr (by rw [h1]; rfl)
theorem nmV_far {nm : List ByteArray} {n : Int} (h0 : 0 ≤ n) (h : ¬ n < nm.length) : nmV nm n = 95 :: Lib.itoa n := by
  unfold nmV
  rw [List.getElem?_eq_none (by omega)]
/-- Some of the arguments' texts. -/
def partB (f : Nat → List UInt8) : Nat → List UInt8
  | 0 => []
  | i + 1 => f 0 ++ restB f 1 i
theorem partB_one (f : Nat → List UInt8) : partB f 1 = f 0 := by simp [partB, restB]
theorem partB_succ (f : Nat → List UInt8) (i : Nat) : partB f (i + 2) = partB f (i + 1) ++ 44 :: f (i + 1) := by
  simp only [partB]
  rw [restB_snoc, List.append_assoc, Nat.add_comm 1 i]
theorem partB_all (f : Nat → List UInt8) {m : Nat} (h : 0 < m) : f 0 ++ (restB f 1 (m - 1) ++ [41]) = partB f m ++ [41] := by
  obtain ⟨i, rfl⟩ : ∃ i, m = i + 1 := ⟨m - 1, by omega⟩
  simp [partB]
theorem partB_step (f : Nat → List UInt8) (i : Nat) : (partB f i).length ≤ (partB f (i + 1)).length := by
  cases i with
  | zero => simp [partB]
  | succ i => rw [partB_succ, List.length_append]; omega
theorem partB_mono (f : Nat → List UInt8) {i : Nat} : ∀ {m : Nat}, i ≤ m → (partB f i).length ≤ (partB f m).length
  | 0, h => by obtain rfl : i = 0 := by omega
               exact Nat.le_refl _
  | m + 1, h => by
    rcases Nat.eq_or_lt_of_le h with rfl | h
    · exact Nat.le_refl _
    · exact Nat.le_trans (partB_mono f (by omega)) (partB_step f m)
theorem sz_list (u : ByteArray) : u.size = u.data.toList.length := Array.length_toList.symm
theorem sz_itoa {u : ByteArray} {n : Int} (hn : I64 n) (h : u.data.toList = Lib.itoa n) : u.size ≤ 21 := by
  rw [sz_list, h]
  exact Lib.itoa_length_le n hn.1 hn.2
theorem sz_ba (l : List UInt8) : (ba l).size = l.length := by rw [sz_list, ba_list]
def TxP (w : World) (l : List UInt8) (e : Ending) (w' : World) : Prop := e = .returned (.string (ba l)) ∧ Below w.heap.size w w'
theorem TxP.of {w w' : World} {l : List UInt8} {t : ByteArray} (h : t.data.toList = l) (hb : Below w.heap.size w w') : TxP w l (.returned (.string t)) w' := ⟨by rw [str_ba h], hb⟩
set_option maxRecDepth 100000 in
set_option maxHeartbeats 8000000 in
theorem rtx_any {nm : List ByteArray} (hnm : NamesFit nm) : ∀ (N : Nat) (t : T), t.nodes ≤ N → t.nodes ≤ 5000 → t.wr → t.fit → ∀ (S : Nat) (v nv : Value) (w : World), GT w S t v → NmIn w S nm nv →
    Calls Tryd.prog 21 #[v, nv] w fun e w' => TxP w (txB (nmV nm) t).1 e w' := by
  intro N
  induction N with
  | zero =>
    intro t h0 _ hw
    cases t with
    | nil => exact hw.elim
    | mk k n s m a => simp only [T.nodes] at h0; omega
  | succ N ih =>
    intro t hN h5 hw hf S v nv w hv hnv
    cases t with
    | nil => exact hw.elim
    | mk k n s m a =>
      obtain ⟨k', n', s', A, m', c, rfl⟩ := hv.agg
      obtain ⟨e0, e1, e2, rfl, hmc, hA, _⟩ := hv.args
      injection e0 with _ e0
      injection e1 with _ e1
      injection e2 with e2
      subst e0; subst e1; subst e2
      have HV := Lib.hid hv
      have HW := Lib.hid hw
      have HF := Lib.hid hf
      have NM := Lib.hid hnv
      have hs4 : s'.size ≤ 4096 := hf.2.1
      have hn64 := Lib.hid hf.1
      have HLN := Lib.hid (tx_len hnm _ hw hf)
      have BX := Lib.hid (belA (Below.refl w.heap.size w) (Obj.cells #[.int .i64 k', .int .i64 n', .string s', .slice A m' c] 24))
      obtain ⟨nA, nc, rfl, hnx⟩ := hnv
      have NX := Lib.hid hnx
      have HNF := Lib.hid hnm
      have hnl : nm.length ≤ 100000 := hnm.1
      clear hv hf hA hnx
      rcases wr_cases hw with rfl | rfl | rfl | rfl
      · -- a variable
        have hn0 := wr_var hw
        have CP := Lib.hid (fun W => rprint_any n' W hn64.out.1 hn64.out.2)
        have num : (nmV nm n' = 95 :: Lib.itoa n') → ∀ (w' : World) (u : ByteArray), Below w.heap.size w w' → u.data.toList = Lib.itoa n' → TxP w (txB (nmV nm) (.mk 1 n' s' m' a)).1 (.returned (.string (⟨#[95]⟩ ++ u))) w' := fun h w' u hb hu => by
          rw [tx_var]
          exact TxP.of (by rw [cat2, hu]; show [95] ++ _ = nmV nm n'; rw [h]; rfl) hb
        have NUM := Lib.hid num
        clear num hw
        by_cases hlt : n' < (nm.length : Int)
        · obtain ⟨j, rfl⟩ : ∃ j : Nat, n' = (j : Int) := ⟨n'.toNat, by omega⟩
          have hj : j < nm.length := by omega
          obtain ⟨g, o, rfl, hgS, hcell⟩ := NX.out (by omega)
          have h0 := hcell j hj
          obtain ⟨x, hx⟩ : ∃ x, nm[j]'hj = x := ⟨_, rfl⟩
          rw [hx] at h0
          have h0' := (BX.out.cell (p := ⟨g, o + j, none⟩) (by show g < w.heap.size; have := HV.out.sz; omega)).trans h0
          have HX := Lib.hid hx
          clear hcell hx
          cases h1 : (x.toList == []) with
          | true =>
            have E := Lib.hid (nmV_none hj (.inl (by rw [HX.out]; exact h1)))
            go_enter Tryd.func21, Tryd.ntmps21
            go_wp2_with fail
            refine (CP.out _).mono ?_
            rintro e w1 ⟨⟨u, rfl, hu⟩, rfl⟩
            have P := Lib.hid (NUM.out E.out _ u BX.out hu)
            have hul := sz_itoa hn64.out hu
            clear hu
            go_wp2_with fail
            go_ret
            exact P.out
          | false =>
            cases h2 : (x.toList == [95]) with
            | true =>
              have E := Lib.hid (nmV_none hj (.inr (by rw [HX.out]; exact h2)))
              go_enter Tryd.func21, Tryd.ntmps21
              go_wp2_with fail
              refine (CP.out _).mono ?_
              rintro e w1 ⟨⟨u, rfl, hu⟩, rfl⟩
              have P := Lib.hid (NUM.out E.out _ u BX.out hu)
              have hul := sz_itoa hn64.out hu
              clear hu
              go_wp2_with fail
              go_ret
              exact P.out
            | false =>
              have E := Lib.hid (show TxP w (txB (nmV nm) (.mk 1 (j : Int) s' m' a)).1 (.returned (.string x)) _ from by
                rw [tx_var]
                exact TxP.of (by show _ = nmV nm (j : Int); rw [nmV_some hj (by rw [HX.out]; exact h1) (by rw [HX.out]; exact h2), HX.out]) BX.out)
              go_enter Tryd.func21, Tryd.ntmps21
              go_wp2_with fail
              go_ret
              exact E.out
        · have E := Lib.hid (nmV_far hn0 hlt)
          go_enter Tryd.func21, Tryd.ntmps21
          go_wp2_with fail
          refine (CP.out _).mono ?_
          rintro e w1 ⟨⟨u, rfl, hu⟩, rfl⟩
          have P := Lib.hid (NUM.out E.out _ u BX.out hu)
          have hul := sz_itoa hn64.out hu
          clear hu
          go_wp2_with fail
          go_ret
          exact P.out
      · have CP := Lib.hid (fun W => rprint_any n' W hn64.out.1 hn64.out.2)
        clear hw
        go_enter Tryd.func21, Tryd.ntmps21
        go_wp2_with fail
        refine (CP.out _).mono ?_
        rintro e w1 ⟨⟨u, rfl, hu⟩, rfl⟩
        have P := Lib.hid (show TxP w (txB (nmV nm) (.mk 2 n' s' m' a)).1 (.returned (.string u)) _ from by rw [tx_int]; exact TxP.of hu BX.out)
        clear hu
        go_wp2_with fail
        go_ret
        exact P.out
      · clear hw
        cases h1 : (s'.toList == [91, 93]) with
        | true =>
          have P := Lib.hid (show TxP w (txB (nmV nm) (.mk 3 n' s' m' a)).1 (.returned (.string s')) _ from by
            rw [eq_str] at h1
            rw [of_decide_eq_true h1]
            show TxP w (txB (nmV nm) (.mk 3 n' nilS m' a)).1 _ _
            rw [tx_nil]
            exact TxP.of (ba_list _) BX.out)
          go_enter Tryd.func21, Tryd.ntmps21
          go_wp2_with fail
          go_ret
          exact P.out
        | false =>
          cases h2 : (s'.toList == [123, 125]) with
          | true =>
            have P := Lib.hid (show TxP w (txB (nmV nm) (.mk 3 n' s' m' a)).1 (.returned (.string s')) _ from by
              rw [eq_str] at h2
              rw [of_decide_eq_true h2]
              show TxP w (txB (nmV nm) (.mk 3 n' curS m' a)).1 _ _
              rw [tx_cur]
              exact TxP.of (ba_list _) BX.out)
            go_enter Tryd.func21, Tryd.ntmps21
            go_wp2_with fail
            go_ret
            exact P.out
          | false =>
            have CQ := Lib.hid (rquote_any s' hs4 (w.alloc (Obj.cells #[.int .i64 3, .int .i64 n', .string s', .slice A m' c] 24)))
            have E := Lib.hid (show (txB (nmV nm) (.mk 3 n' s' m' a)).1 = (quoteN s').data.toList by
              rw [eq_str] at h1 h2
              rw [tx_atom _ (of_decide_eq_false h1) (of_decide_eq_false h2)])
            go_enter Tryd.func21, Tryd.ntmps21
            go_wp2_with fail
            refine CQ.out.mono ?_
            rintro e w1 ⟨rfl, hb1⟩
            have P := Lib.hid (show TxP w (txB (nmV nm) (.mk 3 n' s' m' a)).1 (.returned (.string (quoteN s'))) w1 from by rw [E.out]; exact TxP.of rfl (BX.out.trans (hb1.mono (by simp))))
            clear hb1
            go_wp2_with fail
            go_ret
            exact P.out
      · -- a compound term
        obtain ⟨hq, hm, hwa⟩ := wr_cmp hw
        have HWA := Lib.hid hwa
        have HND := Lib.hid (show ∀ i, i < m' → (a i).nodes ≤ N ∧ (a i).nodes ≤ 5000 from fun i hi => by
          have h1 := sumTo_one (f := fun i => (a i).nodes) hi
          simp only [T.nodes] at hN h5
          omega)
        have CP := Lib.hid (pair_any 4 n' s' A m' c (w.alloc (Obj.cells #[.int .i64 4, .int .i64 n', .string s', .slice A m' c] 24)))
        have IH := Lib.hid (fun (i : Nat) (hi : i < m') (v : Value) (W : World) (hW : GT W S (a i) v) (hN : NmIn W S nm (.slice nA nm.length nc)) => ih (a i) (HND.out i hi).1 (HND.out i hi).2 (HWA.out i hi) (HF.out.2.2 i hi) S v (.slice nA nm.length nc) W hW hN)
        have XB := Lib.hid (heap_alloc_new w (Obj.cells #[.int .i64 4, .int .i64 n', .string s', .slice A m' c] 24))
        have ih' := Lib.hid ih
        have hN5 := Lib.hid h5
        have hm5 : m' ≤ 5000 := by have := wr_few (k := 4) (n := n') (s := s') hwa; omega
        clear hwa hw hN h5 ih
        cases hpr : isPr 4 s' m' with
        | false =>
          have hnp : ¬ (s' = dotS ∧ m' = 2) := fun h => by
            have := isPr_iff.2 (show (4 : Int) = 4 ∧ s' = dotS ∧ m' = 2 from ⟨rfl, h⟩)
            rw [hpr] at this
            cases this
          have E := Lib.hid (show (txB (nmV nm) (.mk 4 n' s' m' a)).1 = (quoteN s').data.toList ++ 40 :: (partB (fun i => (txB (nmV nm) (a i)).1) m' ++ [41]) by
            rw [tx_cmp _ hnp, ← partB_all _ hm])
          have HPB := Lib.hid (show ∀ i, i ≤ m' → (quoteN s').data.toList.length + 1 + (partB (fun i => (txB (nmV nm) (a i)).1) i).length ≤ 1000000000 from fun i hi => by
            have h1 := HLN.out.1
            rw [E.out] at h1
            simp only [List.length_append, List.length_cons, List.length_nil] at h1
            have h2 := partB_mono (fun i => (txB (nmV nm) (a i)).1) hi
            have h3 := hN5.out
            omega)
          have HTL := Lib.hid (show ∀ i, i < m' → (ba (txB (nmV nm) (a i)).1).size ≤ 1000000000 from fun i hi => by
            have h1 := (tx_len HNF.out _ (HWA.out i hi) (HF.out.2.2 i hi)).1
            have h2 := (HND.out i hi).2
            rw [sz_ba]
            omega)
          have CQ := Lib.hid (fun W => rquote_any s' hs4 W)
          rw [hpr] at CP
          clear hnp hpr
          go_enter Tryd.func21, Tryd.ntmps21
          go_wp2_with fail
          refine CP.out.mono ?_
          rintro e w1 ⟨rfl, hb1⟩
          have B1 := Lib.hid (BX.out.trans (hb1.mono (by simp)))
          have X1 := Lib.hid ((hb1.block w.heap.size (by simp)).trans XB.out)
          obtain ⟨x0, x1, x2, x3⟩ := box4t X1.out
          clear hb1 CP
          go_wp2_with fail
          refine (CQ.out _).mono ?_
          rintro e w2 ⟨rfl, hb2⟩
          have B2 := Lib.hid (B1.out.trans (hb2.mono B1.out.size))
          have X2 := Lib.hid ((hb2.block _ (heap_lt X1.out)).trans X1.out)
          have hql := quote_len hs4
          have hqs : (quoteN s').size ≤ 8194 := by
            have e : (quoteN s').data.toList.length = (quoteN s').size := Array.length_toList
            omega
          clear hb2 CQ x0 x1 x2 x3 hql
          go_wp2_with fail
          go_loopw [6, 7] (fun sv iv wr => ∃ (u : ByteArray) (i : Nat), sv = .string u ∧ iv = .int .i64 (i : Int) ∧ i ≤ m' ∧ Hid (u.data.toList = (quoteN s').data.toList ++ 40 :: partB (fun i => (txB (nmV nm) (a i)).1) i) ∧ Below w.heap.size w wr ∧ wr.heap[w.heap.size]? = some (.cells #[.int .i64 4, .int .i64 n', .string s', .slice A m' c] 24 (0, 0))) (fun _ iv _ => m' - (intOf iv).toNat)
          case atStart => exact ⟨_, 0, rfl, rfl, Nat.zero_le _, Lib.hid (by rw [cat2]; rfl), B2.out, X2.out⟩
          case round =>
            obtain ⟨u, i, rfl, rfl, hi, hu, hb, hx⟩ := hrel
            have HU := Lib.hid hu.out
            have BR := Lib.hid hb
            have XR := Lib.hid hx
            obtain ⟨y0, y1, y2, y3⟩ := box4t hx
            clear hu hb hx B1 B2 X1 X2
            by_cases him : i < m'
            · have him' : (i : Int) < (m' : Int) := by omega
              obtain ⟨_, _, _, _, _, _, hargs⟩ := (HV.out.below BR.out).args
              obtain ⟨g, o, k0, k1, k2, A0, m0, c0, rfl, _, hgl, d0, d1, d2, d3, ht⟩ := hargs i him
              have CI := Lib.hid (IH.out i him _ wr ht (NM.out.low HV.out.sz BR.out))
              have hus : u.size ≤ 1000000000 := by rw [sz_list, HU.out]; have := HPB.out i hi; simp only [List.length_append, List.length_cons]; omega
              have hts := HTL.out i him
              clear hargs ht
              cases i with
              | zero =>
                rw [Nat.zero_mul, Nat.add_zero] at d0 d1 d2 d3
                go_wp2_with fail
                refine CI.out.mono ?_
                rintro e w5 ⟨rfl, h5⟩
                have B5 := Lib.hid (BR.out.trans (h5.mono BR.out.size))
                have X5 := Lib.hid ((h5.block _ (heap_lt XR.out)).trans XR.out)
                clear h5
                go_wp2_with fail
                go_roundw
                case rel => exact ⟨_, 1, rfl, by go_num, him, Lib.hid (by rw [cat2, HU.out, ba_list, partB_one]; simp [partB]), B5.out, X5.out⟩
                case measure => simp [intOf]; omega
              | succ i =>
                have hpos : (0 : Int) < ((i : Int) + 1) := by omega
                go_wp2_with fail
                refine CI.out.mono ?_
                rintro e w5 ⟨rfl, h5⟩
                have B5 := Lib.hid (BR.out.trans (h5.mono BR.out.size))
                have X5 := Lib.hid ((h5.block _ (heap_lt XR.out)).trans XR.out)
                clear h5
                go_wp2_with fail
                go_roundw
                case rel => exact ⟨_, i + 2, rfl, by go_num, him, Lib.hid (by rw [cat2, cat2, HU.out, ba_list, partB_succ]; simp), B5.out, X5.out⟩
                case measure => simp [intOf]; omega
            · obtain rfl : i = m' := by omega
              have hus : u.size ≤ 1000000000 := by rw [sz_list, HU.out]; have := HPB.out i hi; simp only [List.length_append, List.length_cons]; omega
              have P := Lib.hid (show TxP w (txB (nmV nm) (.mk 4 n' s' i a)).1 (.returned (.string (u ++ ⟨#[41]⟩))) wr from by
                rw [E.out]
                exact TxP.of (by rw [cat2, HU.out]; simp) BR.out)
              go_wp2_with fail
              go_ret
              exact P.out
        | true =>
          obtain ⟨_, rfl, rfl⟩ := isPr_iff.1 hpr
          rw [hpr] at CP
          clear hpr
          have E := Lib.hid (show (txB (nmV nm) (.mk 4 n' dotS 2 a)).1 = 91 :: ((txB (nmV nm) (a 0)).1 ++ ((txB (nmV nm) (a 1)).2 ++ [93])) by rw [tx_pair])
          obtain ⟨full, hfull⟩ : ∃ full, full = (txB (nmV nm) (.mk 4 n' dotS 2 a)).1 := ⟨_, rfl⟩
          have HFU := Lib.hid hfull
          rw [← hfull] at E ⊢
          clear hfull
          obtain ⟨_, _, _, _, _, _, hargs⟩ := HV.out.args
          obtain ⟨g, o, k0, k1, k2, A0, m0, c0, rfl, hgS, hgl, d0, d1, d2, d3, ht0⟩ := hargs 0 (by omega)
          obtain ⟨g', o', j0, j1, j2, A1, m1, c1, hA', _, _, f0, f1, f2, f3, ht1⟩ := hargs 1 (by omega)
          injection hA' with hA'
          injection hA' with hA1 hA2
          subst hA1; subst hA2
          have T0 := Lib.hid ht0
          have T1 := Lib.hid ht1
          have GC := Lib.hid (show ∀ W, Below w.heap.size w W → (W.cell? ⟨g, o, none⟩ = some (.int .i64 k0) ∧ W.cell? ⟨g, o + 1, none⟩ = some (.int .i64 k1) ∧ W.cell? ⟨g, o + 2, none⟩ = some (.string k2) ∧ W.cell? ⟨g, o + 3, none⟩ = some (.slice A0 m0 c0)) ∧ W.cell? ⟨g, o + 4, none⟩ = some (.int .i64 j0) ∧ W.cell? ⟨g, o + 5, none⟩ = some (.int .i64 j1) ∧ W.cell? ⟨g, o + 6, none⟩ = some (.string j2) ∧ W.cell? ⟨g, o + 7, none⟩ = some (.slice A1 m1 c1) from fun W hb =>
            ⟨⟨(hb.cell (p := ⟨g, _, none⟩) hgl).trans (by simpa using d0), (hb.cell (p := ⟨g, _, none⟩) hgl).trans (by simpa using d1), (hb.cell (p := ⟨g, _, none⟩) hgl).trans (by simpa using d2), (hb.cell (p := ⟨g, _, none⟩) hgl).trans (by simpa using d3)⟩, (hb.cell (p := ⟨g, _, none⟩) hgl).trans (by simpa using f0), (hb.cell (p := ⟨g, _, none⟩) hgl).trans (by simpa [Nat.add_assoc] using f1), (hb.cell (p := ⟨g, _, none⟩) hgl).trans (by simpa [Nat.add_assoc] using f2), (hb.cell (p := ⟨g, _, none⟩) hgl).trans (by simpa [Nat.add_assoc] using f3)⟩)
          clear hargs ht0 ht1 d0 d1 d2 d3 f0 f1 f2 f3
          go_enter Tryd.func21, Tryd.ntmps21
          go_wp2_with fail
          refine CP.out.mono ?_
          rintro e w1 ⟨rfl, hb1⟩
          have B1 := Lib.hid (BX.out.trans (hb1.mono (by simp)))
          have X1 := Lib.hid ((hb1.block w.heap.size (by simp)).trans XB.out)
          obtain ⟨x0, x1, x2, x3⟩ := box4t X1.out
          obtain ⟨⟨d0, d1, d2, d3⟩, f0, f1, f2, f3⟩ := GC.out w1 B1.out
          have hg1 : g < w1.heap.size := by have := B1.out.size; omega
          have CI := Lib.hid (IH.out 0 (by omega) _ w1 (T0.out.below B1.out) (NM.out.low HV.out.sz B1.out))
          clear hb1 CP
          go_wp2_with fail
          refine CI.out.mono ?_
          rintro e w2 ⟨rfl, hb2⟩
          have B2 := Lib.hid (B1.out.trans (hb2.mono B1.out.size))
          have X2 := Lib.hid ((hb2.block _ (heap_lt X1.out)).trans X1.out)
          obtain ⟨y0, y1, y2, y3⟩ := box4t X2.out
          have z2 : ∀ j, w2.frozen? ⟨w.heap.size, j, none⟩ = false := fun j => by simp [World.frozen?, X2.out]
          have hx2 := heap_lt X2.out
          have PU := Lib.hid (box_put4 X2.out (.int .i64 j0) (.int .i64 j1) (.string j2) (.slice A1 m1 c1) rfl)
          clear hb2 CI x0 x1 x2 x3 d0 d1 d2 d3 f0 f1 f2 f3
          obtain ⟨⟨d0, d1, d2, d3⟩, f0, f1, f2, f3⟩ := GC.out w2 B2.out
          have hg2 : g < w2.heap.size := by have := B2.out.size; omega
          have hl0 : (ba (txB (nmV nm) (a 0)).1).size ≤ 1000000000 := by
            have h1 := (tx_len HNF.out _ (HWA.out 0 (by omega)) (HF.out.2.2 0 (by omega))).1
            have h2 := (HND.out 0 (by omega)).2
            rw [sz_ba]
            omega
          have HFL := Lib.hid (show full.length ≤ 1000000000 by
            have h1 := HLN.out.1
            have h2 := hN5.out
            rw [← HFU.out] at h1
            omega)
          go_wp2_with fail
          go_loopg [5] N (fun gk sv wr => ∃ (u : ByteArray) (t' : T) (q0 q1 : Int) (q2 : ByteArray) (q3 : Option Addr) (q4 q5 : Nat), sv = .string u ∧ Below w.heap.size w wr ∧ wr.heap[w.heap.size]? = some (.cells #[.int .i64 q0, .int .i64 q1, .string q2, .slice q3 q4 q5] 24 (0, 0)) ∧ GT wr S t' (.agg #[.int .i64 q0, .int .i64 q1, .string q2, .slice q3 q4 q5]) ∧
            Hid (t'.wr ∧ t'.fit ∧ t'.nodes ≤ N ∧ t'.nodes ≤ 5000 ∧ t'.nodes ≤ gk ∧ u.data.toList ++ ((txB (nmV nm) t').2 ++ [93]) = full))
          case atStart =>
            have W2 := Lib.hid ((T1.out.below B2.out).low HV.out.sz (PU.out.2.2.2 w.heap.size w2 (Nat.le_refl _) ((Below.refl _ _).mono (by have := B2.out.size; omega))))
            refine ⟨_, a 1, _, _, _, _, _, _, rfl, PU.out.2.2.2 _ _ (Nat.le_refl _) B2.out, PU.out.1, W2.out, Lib.hid ⟨HWA.out 1 (by omega), HF.out.2.2 1 (by omega), (HND.out 1 (by omega)).1, (HND.out 1 (by omega)).2, (HND.out 1 (by omega)).1, ?_⟩⟩
            rw [cat2, ba_list, E.out]
            simp
          case round =>
            obtain ⟨u, t', q0, q1, q2, q3, q4, q5, rfl, hb, hx, ht, hT⟩ := hrel
            have HT := Lib.hid hT.out
            have BR := Lib.hid hb
            have XR := Lib.hid hx
            have TR := Lib.hid ht
            obtain ⟨r0, r1, r2, r3⟩ := box4t hx
            have hxr := heap_lt hx
            have hus : u.size ≤ 1000000000 := by
              have h1 := congrArg List.length HT.out.2.2.2.2.2
              simp only [List.length_append] at h1
              have := HFL.out
              rw [sz_list]
              omega
            have CP2 := Lib.hid (pair_any q0 q1 q2 q3 q4 q5 wr)
            clear hT hb hx ht y0 y1 y2 y3 d0 d1 d2 d3 f0 f1 f2 f3 z2 hx2 hg2 hl0 B1 B2 X1 X2 PU T0 T1 GC hg1
            cases t' with
            | nil => exact HT.out.1.elim
            | mk p0 p1 p2 p4 b =>
              obtain ⟨e0, e1, e2, rfl, _, _, _⟩ := TR.out.args
              injection e0 with _ e0
              injection e1 with _ e1
              injection e2 with e2
              subst e0; subst e1; subst e2
              cases hpr : isPr q0 q2 q4 with
              | true =>
                obtain ⟨rfl, rfl, rfl⟩ := isPr_iff.1 hpr
                rw [hpr] at CP2
                clear hpr
                have HB := Lib.hid (wr_cmp HT.out.1).2.2
                have HFB := Lib.hid HT.out.2.1.2.2
                have HNB := Lib.hid (show (b 0).nodes + (b 1).nodes + 1 = (T.mk 4 q1 dotS 2 b).nodes by simp only [T.nodes, sumTo]; omega)
                have HTX := Lib.hid HT.out.2.2.2.2.2
                have HNN := Lib.hid (show (b 0).nodes < N ∧ (b 1).nodes < N ∧ (b 0).nodes ≤ 5000 ∧ (b 1).nodes ≤ 5000 ∧ (b 1).nodes < gk from by
                  have h1 := HT.out.2.2.1
                  have h2 := HT.out.2.2.2.1
                  have h3 := HT.out.2.2.2.2.1
                  have h4 := HNB.out
                  have h5 := wr_pos (HB.out 0 (by omega))
                  have h6 := wr_pos (HB.out 1 (by omega))
                  refine ⟨?_, ?_, ?_, ?_, ?_⟩ <;> omega)
                obtain ⟨_, _, _, _, _, _, hargs⟩ := TR.out.args
                obtain ⟨g3, o3, k0, k1, k2, A0, m0, c0, rfl, hgS3, hgl3, d0, d1, d2, d3, ht0⟩ := hargs 0 (by omega)
                obtain ⟨g', o', j0, j1, j2, A1, m1, c1, hA', _, _, f0, f1, f2, f3, ht1⟩ := hargs 1 (by omega)
                injection hA' with hA'
                injection hA' with hA1 hA2
                subst hA1; subst hA2
                have T1 := Lib.hid ht1
                have CI := Lib.hid (fun (W : World) (v : Value) (hW : GT W S (b 0) v) (hN : NmIn W S nm (.slice nA nm.length nc)) => ih'.out (b 0) (by have := HNN.out; omega) HNN.out.2.2.1 (HB.out 0 (by omega)) (HFB.out 0 (by omega)) S v (.slice nA nm.length nc) W hW hN)
                have T0 := Lib.hid ht0
                have GC := Lib.hid (show ∀ W, Below wr.heap.size wr W → (W.cell? ⟨g3, o3, none⟩ = some (.int .i64 k0) ∧ W.cell? ⟨g3, o3 + 1, none⟩ = some (.int .i64 k1) ∧ W.cell? ⟨g3, o3 + 2, none⟩ = some (.string k2) ∧ W.cell? ⟨g3, o3 + 3, none⟩ = some (.slice A0 m0 c0)) ∧ W.cell? ⟨g3, o3 + 4, none⟩ = some (.int .i64 j0) ∧ W.cell? ⟨g3, o3 + 5, none⟩ = some (.int .i64 j1) ∧ W.cell? ⟨g3, o3 + 6, none⟩ = some (.string j2) ∧ W.cell? ⟨g3, o3 + 7, none⟩ = some (.slice A1 m1 c1) from fun W hb =>
                  ⟨⟨(hb.cell (p := ⟨g3, _, none⟩) hgl3).trans (by simpa using d0), (hb.cell (p := ⟨g3, _, none⟩) hgl3).trans (by simpa using d1), (hb.cell (p := ⟨g3, _, none⟩) hgl3).trans (by simpa using d2), (hb.cell (p := ⟨g3, _, none⟩) hgl3).trans (by simpa using d3)⟩, (hb.cell (p := ⟨g3, _, none⟩) hgl3).trans (by simpa using f0), (hb.cell (p := ⟨g3, _, none⟩) hgl3).trans (by simpa [Nat.add_assoc] using f1), (hb.cell (p := ⟨g3, _, none⟩) hgl3).trans (by simpa [Nat.add_assoc] using f2), (hb.cell (p := ⟨g3, _, none⟩) hgl3).trans (by simpa [Nat.add_assoc] using f3)⟩)
                clear hargs ht0 ht1 d0 d1 d2 d3 f0 f1 f2 f3
                go_wp2_with fail
                refine CP2.out.mono ?_
                rintro e w3 ⟨rfl, hb3⟩
                have B3 := Lib.hid (BR.out.trans (hb3.mono BR.out.size))
                have R3 := Lib.hid hb3
                have X3 := Lib.hid ((hb3.block _ hxr).trans XR.out)
                obtain ⟨x0, x1, x2, x3⟩ := box4t X3.out
                obtain ⟨⟨d0, d1, d2, d3⟩, f0, f1, f2, f3⟩ := GC.out w3 hb3
                have hg3 : g3 < w3.heap.size := by have := hb3.size; omega
                have CI2 := Lib.hid (CI.out w3 _ (T0.out.below hb3) (NM.out.low HV.out.sz B3.out))
                clear hb3 CP2 r0 r1 r2 r3
                go_wp2_with fail
                refine CI2.out.mono ?_
                rintro e w4 ⟨rfl, hb4⟩
                have B4 := Lib.hid (B3.out.trans (hb4.mono B3.out.size))
                have R4 := Lib.hid (R3.out.trans (hb4.mono R3.out.size))
                have X4 := Lib.hid ((hb4.block _ (heap_lt X3.out)).trans X3.out)
                obtain ⟨y0, y1, y2, y3⟩ := box4t X4.out
                have z4 : ∀ j, w4.frozen? ⟨w.heap.size, j, none⟩ = false := fun j => by simp [World.frozen?, X4.out]
                have hx4 := heap_lt X4.out
                have PU := Lib.hid (box_put4 X4.out (.int .i64 j0) (.int .i64 j1) (.string j2) (.slice A1 m1 c1) rfl)
                have hg4 : g3 < w4.heap.size := by have := R4.out.size; omega
                have hl0 : (ba (txB (nmV nm) (b 0)).1).size ≤ 1000000000 := by
                  have h1 := (tx_len HNF.out _ (HB.out 0 (by omega)) (HFB.out 0 (by omega))).1
                  have h2 := HNN.out.2.2.1
                  rw [sz_ba]
                  omega
                clear hb4 CI2 x0 x1 x2 x3 d0 d1 d2 d3 f0 f1 f2 f3
                obtain ⟨⟨d0, d1, d2, d3⟩, f0, f1, f2, f3⟩ := GC.out w4 R4.out
                have W2 := Lib.hid ((T1.out.below R4.out).low HV.out.sz (PU.out.2.2.2 w.heap.size w4 (Nat.le_refl _) ((Below.refl _ _).mono (by have := B4.out.size; omega))))
                go_wp2_with fail
                go_roundg (b 1).nodes
                case rel =>
                  refine ⟨_, b 1, _, _, _, _, _, _, rfl, PU.out.2.2.2 _ _ (Nat.le_refl _) B4.out, PU.out.1, W2.out, Lib.hid ⟨HB.out 1 (by omega), HFB.out 1 (by omega), by have := HNN.out; omega, HNN.out.2.2.2.1, Nat.le_refl _, ?_⟩⟩
                  rw [cat2, cat2, ba_list, ← HTX.out, tx_pair]
                  simp
                case measure => have := HNN.out; omega
              | false =>
                rw [hpr] at CP2
                have hnp : ¬ (q0 = 4 ∧ q2 = dotS ∧ q4 = 2) := fun h => by
                  rw [isPr_iff.2 h] at hpr
                  cases hpr
                have HNP := Lib.hid hnp
                have HTX := Lib.hid HT.out.2.2.2.2.2
                have CI := Lib.hid (fun (W : World) (v : Value) (hW : GT W S (.mk q0 q1 q2 q4 b) v) (hN : NmIn W S nm (.slice nA nm.length nc)) => ih'.out _ HT.out.2.2.1 HT.out.2.2.2.1 HT.out.1 HT.out.2.1 S v (.slice nA nm.length nc) W hW hN)
                have hl0 : (ba (txB (nmV nm) (.mk q0 q1 q2 q4 b)).1).size ≤ 1000000000 := by
                  have h1 := (tx_len HNF.out _ HT.out.1 HT.out.2.1).1
                  have h2 := HT.out.2.2.2.1
                  rw [sz_ba]
                  omega
                have tailp : ¬ (q0 = 3 ∧ q2 = nilS) → ∀ W, Below w.heap.size w W → TxP w full (.returned (.string (u ++ ⟨#[124]⟩ ++ ba (txB (nmV nm) (.mk q0 q1 q2 q4 b)).1 ++ ⟨#[93]⟩))) W := fun h W hb => by
                  refine TxP.of ?_ hb
                  rw [← HTX.out, txt_else _ HNP.out h]
                  simp [ba]
                have TAIL := Lib.hid tailp
                clear hpr hnp tailp
                go_wp2_with fail
                refine CP2.out.mono ?_
                rintro e w3 ⟨rfl, hb3⟩
                have B3 := Lib.hid (BR.out.trans (hb3.mono BR.out.size))
                have T3 := Lib.hid (TR.out.below hb3)
                have X3 := Lib.hid ((hb3.block _ hxr).trans XR.out)
                obtain ⟨x0, x1, x2, x3⟩ := box4t X3.out
                have CI2 := Lib.hid (CI.out w3 _ T3.out (NM.out.low HV.out.sz B3.out))
                clear hb3 CP2 r0 r1 r2 r3
                by_cases h3 : q0 = 3
                · subst h3
                  by_cases h4 : q2.toList = [91, 93]
                  · have P := Lib.hid (show TxP w full (.returned (.string (u ++ ⟨#[93]⟩))) w3 from by
                      refine TxP.of ?_ B3.out
                      have e2 : q2 = nilS := str_ba (l := [91, 93]) (by rw [← ByteArray.toList_eq]; exact h4)
                      rw [← HTX.out, e2, tx_nil]
                      simp)
                    have h4' : (q2.toList == [91, 93]) = true := by rw [h4]; rfl
                    go_wp2_with fail
                    go_ret
                    exact P.out
                  · have P := Lib.hid (TAIL.out (fun h => h4 (by rw [h.2, ByteArray.toList_eq]; rfl)))
                    have h4' : (q2.toList == [91, 93]) = false := beq_eq_false_iff_ne.2 h4
                    go_wp2_with fail
                    refine CI2.out.mono ?_
                    rintro e w4 ⟨rfl, hb4⟩
                    have P4 := Lib.hid (P.out w4 (B3.out.trans (hb4.mono B3.out.size)))
                    clear hb4 CI2
                    go_wp2_with fail
                    go_ret
                    exact P4.out
                · have P := Lib.hid (TAIL.out (fun h => h3 h.1))
                  have h3' : (q0 == 3) = false := beq_eq_false_iff_ne.2 h3
                  go_wp2_with fail
                  refine CI2.out.mono ?_
                  rintro e w4 ⟨rfl, hb4⟩
                  have P4 := Lib.hid (P.out w4 (B3.out.trans (hb4.mono B3.out.size)))
                  clear hb4 CI2
                  go_wp2_with fail
                  go_ret
                  exact P4.out
end Go.Proofs.YtiefbdblefliaaaDoor
