/- The walk through term.Depth. The closure of code.Decode that reads a callable term. The walk through slices.Equal of instructions. -/
import Derived.Test.YtlgeepjlnjlgdaaDoorEF
import Derived.Test.YtlgeepjlnjlgdaaDoorEU
import Derived.Test.YtlgeepjlnjlgdaaDoorEI
namespace Go.Proofs.YtlgeepjlnjlgdaaDoor
open Go.RowKit

theorem TIn.agg {w : World} {B : Nat} {t : T} {v : Value} (h : TIn w B t v) : ∃ k n s A m c, v = .agg #[.int .i64 k, .int .i64 n, .string s, .slice A m c] := by
  cases t with
  | nil => exact h.elim
  | mk k n s m a => obtain ⟨A, c, rfl, _⟩ := h; exact ⟨_, _, _, _, _, _, rfl⟩
theorem dargs_yes {k n : Int} {s : ByteArray} {A : Option Addr} {m c : Nat} (hk : (k == 4) = true) (w : World) :
    Calls Tryd.prog 50 #[.agg #[.int .i64 k, .int .i64 n, .string s, .slice A m c]] w fun e w' => e = .returned (.slice A m c) ∧ Below w.heap.size w w' := by
  have hk' : (k != 4) = false := by simpa using hk
  clear hk
  go_enter Tryd.func50, Tryd.ntmps50
  go_wp2_with fail
  go_ret
  exact ⟨rfl, (Below.refl _ _).alloc (Nat.le_refl _) _⟩
theorem dargs_no {k n : Int} {s : ByteArray} {A : Option Addr} {m c : Nat} (hk : (k == 4) = false) (w : World) :
    Calls Tryd.prog 50 #[.agg #[.int .i64 k, .int .i64 n, .string s, .slice A m c]] w fun e w' => e = .returned (.slice none 0 0) ∧ Below w.heap.size w w' := by
  have hk' : (k != 4) = true := by simpa using hk
  clear hk
  go_enter Tryd.func50, Tryd.ntmps50
  go_wp2_with fail
  go_ret
  exact ⟨rfl, (Below.refl _ _).alloc (Nat.le_refl _) _⟩
set_option maxRecDepth 100000 in
set_option maxHeartbeats 4000000 in
theorem pdepth_any : ∀ t : T, t.nodes ≤ 100000 → ∀ (v : Value) (w : World), TIn w w.heap.size t v →
    Calls Tryd.prog 32 #[v] w fun e w' => e = .returned (.int .i64 (t.depth : Int)) ∧ Below w.heap.size w w' := by
  intro t
  induction t with
  | nil => intro _ v w hv; exact hv.elim
  | mk k n s m a ih =>
    intro hn v w hv
    obtain ⟨A, c, rfl, hT⟩ := hv.open_
    have HT := Lib.hid hT
    have hnod : 1 + (sumTo m fun i => (a i).nodes) ≤ 100000 := hn
    have hm2 : m ≤ 100000 := by have := hT.fewN; omega
    have IH := Lib.hid ih
    have HDM := Lib.hid (show ∀ i, i ≤ m → maxTo i (fun i => (a i).depth) ≤ 100002 from fun i hi => maxTo_lt fun q hq => by
      have h1 := depth_nodes (t := a q)
      have h2 := sumTo_one (f := fun i => (a i).nodes) (show q < m by omega)
      omega)
    have BX := Lib.hid (Below.alloc (Below.refl w.heap.size w) (Nat.le_refl _) (Obj.cells #[.int .i64 k, .int .i64 n, .string s, .slice A m c] 24))
    clear hv hT ih hn
    cases hk' : (k == 4) with
    | false =>
      have HE := Lib.hid (show (1 : Int) = ((T.mk k n s m a).depth : Int) by rw [depth_leaf hk']; rfl)
      have CA := Lib.hid (dargs_no (n := n) (s := s) (A := A) (m := m) (c := c) hk' (w.alloc (Obj.cells #[.int .i64 k, .int .i64 n, .string s, .slice A m c] 24)))
      go_enter Tryd.func32, Tryd.ntmps32
      go_wp2_with fail
      refine CA.out.mono ?_
      rintro e w1 ⟨rfl, h1⟩
      have B1 := Lib.hid (BX.out.trans (h1.mono (by simp)))
      clear h1
      go_wp2_with fail
      go_loopw [3, 9] (fun nv iv wr => nv = .int .i64 0 ∧ iv = .int .i64 0 ∧ w1 = wr) (fun _ _ _ => 0)
      case atStart => exact ⟨rfl, rfl, rfl⟩
      case round =>
        obtain ⟨rfl, rfl, rfl⟩ := hrel
        go_wp2_with fail
        go_ret
        rw [← HE.out]
        exact ⟨rfl, B1.out⟩
    | true =>
      have CA := Lib.hid (dargs_yes (n := n) (s := s) (A := A) (m := m) (c := c) hk' (w.alloc (Obj.cells #[.int .i64 k, .int .i64 n, .string s, .slice A m c] 24)))
      go_enter Tryd.func32, Tryd.ntmps32
      go_wp2_with fail
      refine CA.out.mono ?_
      rintro e w1 ⟨rfl, h1⟩
      have B1 := Lib.hid (BX.out.trans (h1.mono (by simp)))
      clear h1
      go_wp2_with fail
      go_loopw [3, 9] (fun nv iv wr => ∃ z i : Nat, nv = .int .i64 (z : Int) ∧ iv = .int .i64 (i : Int) ∧ i ≤ m ∧ Hid (z = maxTo i (fun i => (a i).depth)) ∧ Below w.heap.size w wr) (fun _ iv _ => m - (intOf iv).toNat)
      case atStart => exact ⟨0, 0, rfl, rfl, Nat.zero_le _, Lib.hid rfl, B1.out⟩
      case round =>
        clear B1
        obtain ⟨z, i, rfl, rfl, hi, hz, hb⟩ := hrel
        have HB := Lib.hid hb
        have hz2 : z ≤ 100002 := by rw [hz.out]; exact HDM.out i hi
        clear hb
        by_cases him : i < m
        · have him' : (i : Int) < (m : Int) := by omega
          obtain ⟨b, off, rfl, hbw, hcell⟩ := HT.out.cells (by omega)
          obtain ⟨v0, v1, v2, v3, c0, c1, c2, c3, ht⟩ := hcell i him
          obtain ⟨k0, k1, k2, A0, m0, cc0, he⟩ := ht.agg
          injection he with he
          simp only [Array.mk.injEq, List.cons.injEq, and_true] at he
          obtain ⟨rfl, rfl, rfl, rfl⟩ := he
          have hbl : b < w.heap.size := hbw
          have d0 := (HB.out.cell (p := ⟨b, off + 4 * i, none⟩) hbl).trans c0
          have d1 := (HB.out.cell (p := ⟨b, off + 4 * i + 1, none⟩) hbl).trans c1
          have d2 := (HB.out.cell (p := ⟨b, off + 4 * i + 2, none⟩) hbl).trans c2
          have d3 := (HB.out.cell (p := ⟨b, off + 4 * i + 3, none⟩) hbl).trans c3
          rw [Nat.mul_comm 4 i] at d0 d1 d2 d3
          have hbr : b < wr.heap.size := Nat.lt_of_lt_of_le hbl HB.out.size
          have BA := Lib.hid (Below.alloc (Below.refl wr.heap.size wr) (Nat.le_refl _) (Obj.cells #[.int .i64 k0, .int .i64 k1, .string k2, .slice A0 m0 cc0] 24))
          have HC := Lib.hid (((ht.below HB.out).more HB.out.size).below BA.out)
          have HC2 := Lib.hid (HC.out.more BA.out.size)
          have hci : (a i).nodes ≤ 100000 := by have := sumTo_one (f := fun i => (a i).nodes) him; omega
          obtain ⟨zc, hzc⟩ : ∃ zc, zc = (a i).depth := ⟨_, rfl⟩
          have hzc2 : zc ≤ 100002 := by rw [hzc]; have := depth_nodes (t := a i); omega
          have CI := Lib.hid (IH.out i hci _ _ HC2.out)
          rw [← hzc] at CI
          have HZC := Lib.hid hzc
          clear hcell c0 c1 c2 c3 ht hzc
          rcases Int.lt_or_le (z : Int) (zc : Int) with hmx | hmx
          all_goals
            have HM := Lib.hid hmx
            go_wp2_with fail
            refine CI.out.mono ?_
            rintro e w5 ⟨rfl, h5⟩
            have B5 := Lib.hid ((HB.out.trans (BA.out.mono HB.out.size)).trans (h5.mono (by have := HB.out.size; simp; omega)))
            clear h5
            go_wp2_with fail
            go_roundw
            case rel => exact ⟨max z zc, i + 1, by have := HM.out; go_num, by go_num, him, Lib.hid (by rw [HZC.out]; exact maxTo_succ hz.out), B5.out⟩
            case measure => simp [intOf]; omega
        · obtain rfl : i = m := by omega
          have HE := Lib.hid (show (z : Int) + 1 = ((T.mk k n s i a).depth : Int) by rw [depth_cmp hk', ← hz.out]; omega)
          go_wp2_with fail
          go_ret
          rw [← HE.out]
          exact ⟨rfl, HB.out⟩
end Go.Proofs.YtlgeepjlnjlgdaaDoor
namespace Go.Proofs.YtlgeepjlnjlgdaaDoor
open Go.RowKit

/-- What 'callable' hands back. -/
def CallP (l : List Ins) (lb ab rb nb fb B : Nat) (lv : Value) (i : Nat) (right : Bool) (w : World) (e : Ending) (w' : World) : Prop :=
  ∃ (v : Value) (t : T) (i' : Nat) (r' : Bool), e = .returned v ∧ TP w' (fun b => w.heap.size ≤ b) t v ∧ Ds w' lb ab rb nb fb lv i' r' ∧ i' ≤ l.length ∧
    Hid ((right = false → r' = false) ∧ (right = true → match pdT l 1000 i with | some (t', j) => (t'.callC → t = t' ∧ i' = j ∧ r' = true) ∧ (¬ t'.callC → r' = false) | none => r' = false)) ∧ Kd ab rb B w w'
set_option maxRecDepth 100000 in
set_option maxHeartbeats 8000000 in
theorem callable_d {l : List Ins} (hl : InsOk l) (hin : InsIn l) {lb ab rb nb fb B : Nat} {lv : Value} (hBa : B ≤ ab) (hBr : B ≤ rb) {i : Nat} {right : Bool} {w : World} (hi : i ≤ l.length) (hd : Ds w lb ab rb nb fb lv i right) (hlv : GRw w B lv l) :
    Calls Tryd.prog 30 #[.pointer (some ⟨fb, 0, none⟩), .pointer (some ⟨rb, 0, none⟩)] w fun e w' => CallP l lb ab rb nb fb B lv i right w e w' := by
  have HD := Lib.hid hd
  have HLV := Lib.hid hlv
  have HL := Lib.hid hl
  have HIN := Lib.hid hin
  have BX := Lib.hid (belA (Below.refl w.heap.size w) (Obj.cells #[.int .i64 0, .int .i64 0, .string ⟨#[]⟩, .slice none 0 0] 24))
  have HB0 := Lib.hid (heap_alloc_new w (Obj.cells #[.int .i64 0, .int .i64 0, .string ⟨#[]⟩, .slice none 0 0] 24))
  have D1 := Lib.hid (hd.below BX.out)
  have q0 := cell_of_row _ fb 0 _ _ _ D1.out.hf
  have l0 := heap_lt hd.hf
  have CN := Lib.hid (show Calls Tryd.prog 29 #[.int .i64 1, .pointer (some ⟨nb, 0, none⟩), .pointer (some ⟨rb, 0, none⟩), .pointer (some ⟨fb, 0, none⟩)] _ _ from read_d (B := B) hl hBa hBr 1000 (Nat.le_refl _) i right _ hi D1.out (hlv.below BX.out))
  clear hd hlv hl hin
  unfold fnR at q0
  go_enter Tryd.func30, Tryd.ntmps30
  go_wp2_with fail
  refine CN.out.mono ?_
  rintro e w1 ⟨v, t, i1, r1, rfl, hv, hd1, hi1, hx, hk1⟩
  obtain ⟨k, n, s, A, m, c, rfl⟩ := hv.agg
  have HV := Lib.hid hv
  have D2 := Lib.hid hd1
  have HX := Lib.hid hx.out
  have K1 := Lib.hid ((Kd.of (ab := ab) (rb := rb) (B := B) BX.out (by have := heap_lt HD.out.ha; omega)).trans hk1)
  have XR := Lib.hid ((hk1.keep w.heap.size (by simp) (by have := heap_lt HD.out.ha; omega) (by have := heap_lt HD.out.hr; omega)).trans HB0.out)
  have hs1 : w.heap.size + 1 ≤ w1.heap.size := by have := hk1.low.size; simpa using this
  obtain ⟨u0, u1, u2, u3⟩ := box4t XR.out
  have zr : ∀ j, w1.frozen? ⟨w.heap.size, j, none⟩ = false := fun j => by simp [World.frozen?, XR.out]
  have hrl := heap_lt XR.out
  have p2 := cell_of_row w1 rb 0 _ _ _ D2.out.hr
  have lr := heap_lt D2.out.hr
  have zb : ∀ j, w1.frozen? ⟨rb, j, none⟩ = false := fun j => by simp [World.frozen?, D2.out.hr]
  have hBw : B ≤ w.heap.size := by have := heap_lt HD.out.ha; omega
  have hrb : rb < w.heap.size := heap_lt HD.out.hr
  have hw0 : w.heap.size ≠ rb := by omega
  have hw1 : w1.heap.size ≠ rb := by omega
  have END := Lib.hid (show ∀ (wz : World) (r : Bool), Ds wz lb ab rb nb fb lv i1 true ∨ Ds wz lb ab rb nb fb lv i1 false → Kd ab rb B w wz → wz.heap[w.heap.size]? = some (.cells #[.int .i64 0, .int .i64 0, .string ⟨#[]⟩, .slice none 0 0] 24 (0, 0)) → TP wz (fun b => w.heap.size + 1 ≤ b) t (.agg #[.int .i64 k, .int .i64 n, .string s, .slice A m c]) →
      ∀ W, W = (((((wz.setCell ⟨rb, 0, none⟩ (.bool r)).setCell ⟨w.heap.size, 0, none⟩ (.int .i64 k)).setCell ⟨w.heap.size, 1, none⟩ (.int .i64 n)).setCell ⟨w.heap.size, 2, none⟩ (.string s)).setCell ⟨w.heap.size, 3, none⟩ (.slice A m c)) →
        W.heap[w.heap.size]? = some (.cells #[.int .i64 k, .int .i64 n, .string s, .slice A m c] 24 (0, 0)) ∧ Ds W lb ab rb nb fb lv i1 r ∧ Kd ab rb B w W ∧ TP W (fun b => w.heap.size ≤ b) t (.agg #[.int .i64 k, .int .i64 n, .string s, .slice A m c]) from fun wz r hdz hkz hz ht W hW => by
    have hdr : Ds (wz.setCell ⟨rb, 0, none⟩ (.bool r)) lb ab rb nb fb lv i1 r := by
      rcases hdz with h | h
      · exact h.setr r
      · exact h.setr r
    have hz2 : (wz.setCell ⟨rb, 0, none⟩ (.bool r)).heap[w.heap.size]? = some (.cells #[.int .i64 0, .int .i64 0, .string ⟨#[]⟩, .slice none 0 0] 24 (0, 0)) := (Below.heap_setCell _ _ _ _ (show w.heap.size ≠ rb from hw0)).trans hz
    have P := box_put4 hz2 (.int .i64 k) (.int .i64 n) (.string s) (.slice A m c) hW.symm
    refine ⟨P.1, hdr.put hz2 P.2.2.1, (hkz.trans (Kd.setr hBr _)).put (Nat.le_refl _) (P.2.2.2 B w hBw) P.2.2.1, ht.keep fun b cs f hS hh => ⟨?_, ?_⟩⟩
    · have hS' : w.heap.size + 1 ≤ b := hS
      exact (P.2.2.1 b (by omega)).trans ((Below.heap_setCell _ _ _ _ (show b ≠ rb by omega)).trans hh)
    · have hS' : w.heap.size + 1 ≤ b := hS
      show w.heap.size ≤ b
      omega)
  clear hv hd1 hx hk1 CN q0
  cases r1 with
  | false =>
    go_wp2_with fail
    obtain ⟨e1, e2, e3, e4⟩ := END.out w1 false (.inr D2.out) K1.out XR.out (HV.out.more fun b hb => by simpa using hb) _ rfl
    have BA := fun (W : World) => Below.alloc (Below.refl W.heap.size W) (Nat.le_refl _) (Obj.cells #[.int .i64 k, .int .i64 n, .string s, .slice A m c] 24)
    obtain ⟨p0, p1, p2, p3⟩ := box4t (((BA _).block _ (heap_lt e1)).trans e1)
    refine bodyPost_ret (v := .agg #[.int .i64 k, .int .i64 n, .string s, .slice A m c]) (by simp [results, go_sem, p0, p1, p2, p3]) rfl ?_
    refine ⟨_, t, i1, false, rfl, e4.below (BA _), e2.below (BA _), hi1, Lib.hid ⟨fun _ => rfl, fun h => ?_⟩, e3.trans (Kd.of (BA _) (Nat.le_trans hBw e3.low.size))⟩
    have := HX.out.2 h
    cases hp : pdT l 1000 i with
    | none => rfl
    | some p =>
      rw [hp] at this
      exact absurd this.2.2 (by decide)
  | true =>
    by_cases hk : k = 3 ∨ k = 4
    · have HP := Lib.hid (show pdT l 1000 i = some (t, i1) ∧ right = true from by
        cases hR : right with
        | false => exact absurd (HX.out.1 hR) (by decide)
        | true =>
          have h := HX.out.2 hR
          cases hp : pdT l 1000 i with
          | none => rw [hp] at h; cases h
          | some p => rw [hp] at h; obtain ⟨t', j⟩ := p; obtain ⟨rfl, rfl, _⟩ := h; exact ⟨rfl, rfl⟩)
      have hsm := pd_semi HIN.out 1000 i t i1 HP.out.1
      have hnd : t.nodes ≤ 100000 := by have := HL.out.few; omega
      have SM := Lib.hid hsm.1
      have CG := Lib.hid (show ∀ W, Below w1.heap.size w1 W → Calls Tryd.prog 31 #[.agg #[.int .i64 k, .int .i64 n, .string s, .slice A m c]] W fun e w' => (∃ b, e = .returned (.bool b) ∧ Hid (b = true ↔ t.goodW)) ∧ Below W.heap.size W w' from fun W hW => pgood_any SM.out.short hnd (HV.out.below hW))
      clear hsm
      have KC := Lib.hid (show t.kindC from by
        cases t with
        | nil => exact HV.out.elim
        | mk k' n' s' m' a' =>
          obtain ⟨_, _, he, _⟩ := HV.out
          have he1 : k = k' := by simp at he; exact he.1
          exact he1 ▸ hk)
      rcases hk with rfl | rfl
      · go_wp2_with fail
        refine (CG.out _ (by repeat (first | (with_reducible exact Below.refl _ _) | (with_reducible refine Below.drew ?_) | (with_reducible refine Below.alloc ?_ (by simp) _)))).mono ?_
        rintro e w2 ⟨⟨b, rfl, hb⟩, h2⟩
        have BW2 := Lib.hid (show Below w1.heap.size w1 w2 from (Below.alloc (Below.refl w1.heap.size w1) (Nat.le_refl _) _).trans (h2.mono (by simp)))
        have XH2 := Lib.hid ((h2.block w1.heap.size (by simp)).trans (heap_at _ _ (by simp)))
        have HB2 := Lib.hid hb.out
        have D22 := Lib.hid (D2.out.below BW2.out)
        have K22 := Lib.hid (K1.out.trans (Kd.of BW2.out (Nat.le_trans hBw K1.out.low.size)))
        have XR2 := Lib.hid ((BW2.out.block _ hrl).trans XR.out)
        have TP2 := Lib.hid (HV.out.below BW2.out)
        obtain ⟨z0, z1, z2, z3⟩ := box4t XH2.out
        have zb2 : ∀ j, w2.frozen? ⟨rb, j, none⟩ = false := fun j => by simp [World.frozen?, D22.out.hr]
        have zr2 : ∀ j, w2.frozen? ⟨w.heap.size, j, none⟩ = false := fun j => by simp [World.frozen?, XR2.out]
        have p22 := cell_of_row w2 rb 0 _ _ _ D22.out.hr
        have lr2 := heap_lt D22.out.hr
        have lx2 := heap_lt XR2.out
        have lh2 := heap_lt XH2.out
        obtain ⟨v0, v1, v2, v3⟩ := box4t XR2.out
        clear h2 hb CG u0 u1 u2 u3 zr zb p2 lr hrl
        cases b with
        | false =>
          have NC := Lib.hid (show ¬ t.callC from fun h => absurd (HB2.out.2 h.2.1) (by decide))
          go_wp2_with fail
          obtain ⟨e1, e2, e3, e4⟩ := END.out w2 false (.inl D22.out) K22.out XR2.out (TP2.out.more fun b hb => by simpa using hb) _ rfl
          obtain ⟨p0, p1, p2, p3⟩ := box4t e1
          refine bodyPost_ret (v := .agg #[.int .i64 3, .int .i64 n, .string s, .slice A m c]) (by simp [results, go_sem, p0, p1, p2, p3]) rfl ?_
          refine ⟨_, t, i1, false, rfl, e4, e2, hi1, Lib.hid ⟨fun h => absurd (HP.out.2.symm.trans h) (by decide), fun _ => ?_⟩, e3⟩
          rw [HP.out.1]
          exact ⟨fun h => absurd h NC.out, fun _ => rfl⟩
        | true =>
          go_wp2_with fail
          refine (pdepth_any t hnd _ _ TP2.out.tin).mono ?_
          rintro e w3 ⟨rfl, h3⟩
          have XH3 := Lib.hid ((h3.block w1.heap.size lh2).trans XH2.out)
          have D33 := Lib.hid (D22.out.below h3)
          have K33 := Lib.hid (K22.out.trans (Kd.of h3 (Nat.le_trans hBw K22.out.low.size)))
          have XR3 := Lib.hid ((h3.block _ lx2).trans XR2.out)
          have TP3 := Lib.hid (TP2.out.below h3)
          clear z0 z1 z2 z3 zb2 zr2 p22 lr2 v0 v1 v2 v3
          obtain ⟨z0, z1, z2, z3⟩ := box4t XH3.out
          have zb3 : ∀ j, w3.frozen? ⟨rb, j, none⟩ = false := fun j => by simp [World.frozen?, D33.out.hr]
          have zr3 : ∀ j, w3.frozen? ⟨w.heap.size, j, none⟩ = false := fun j => by simp [World.frozen?, XR3.out]
          have p33 := cell_of_row w3 rb 0 _ _ _ D33.out.hr
          have lr3 := heap_lt D33.out.hr
          have lx3 := heap_lt XR3.out
          have lh3 := heap_lt XH3.out
          obtain ⟨v0, v1, v2, v3⟩ := box4t XR3.out
          have HPX := Lib.hid h3
          clear h3
          go_wp2_with fail
          obtain ⟨e1, e2, e3, e4⟩ := END.out w3 (decide ((t.depth : Int) ≤ 1000)) (.inl D33.out) K33.out XR3.out (TP3.out.more fun b hb => by simpa using hb) _ rfl
          obtain ⟨p0, p1, p2, p3⟩ := box4t e1
          refine bodyPost_ret (v := .agg #[.int .i64 3, .int .i64 n, .string s, .slice A m c]) (by simp [results, go_sem, p0, p1, p2, p3]) rfl ?_
          refine ⟨_, t, i1, decide ((t.depth : Int) ≤ 1000), rfl, e4, e2, hi1, Lib.hid ⟨fun h => absurd (HP.out.2.symm.trans h) (by decide), fun _ => ?_⟩, e3⟩
          rw [HP.out.1]
          exact ⟨fun h => ⟨rfl, rfl, decide_eq_true (by have := h.2.2; omega)⟩, fun h => decide_eq_false fun h2 => h ⟨KC.out, HB2.out.1 (by first | rfl | trivial), by omega⟩⟩
      · go_wp2_with fail
        refine (CG.out _ (by repeat (first | (with_reducible exact Below.refl _ _) | (with_reducible refine Below.drew ?_) | (with_reducible refine Below.alloc ?_ (by simp) _)))).mono ?_
        rintro e w2 ⟨⟨b, rfl, hb⟩, h2⟩
        have BW2 := Lib.hid (show Below w1.heap.size w1 w2 from (Below.alloc (Below.refl w1.heap.size w1) (Nat.le_refl _) _).trans (h2.mono (by simp)))
        have XH2 := Lib.hid ((h2.block w1.heap.size (by simp)).trans (heap_at _ _ (by simp)))
        have HB2 := Lib.hid hb.out
        have D22 := Lib.hid (D2.out.below BW2.out)
        have K22 := Lib.hid (K1.out.trans (Kd.of BW2.out (Nat.le_trans hBw K1.out.low.size)))
        have XR2 := Lib.hid ((BW2.out.block _ hrl).trans XR.out)
        have TP2 := Lib.hid (HV.out.below BW2.out)
        obtain ⟨z0, z1, z2, z3⟩ := box4t XH2.out
        have zb2 : ∀ j, w2.frozen? ⟨rb, j, none⟩ = false := fun j => by simp [World.frozen?, D22.out.hr]
        have zr2 : ∀ j, w2.frozen? ⟨w.heap.size, j, none⟩ = false := fun j => by simp [World.frozen?, XR2.out]
        have p22 := cell_of_row w2 rb 0 _ _ _ D22.out.hr
        have lr2 := heap_lt D22.out.hr
        have lx2 := heap_lt XR2.out
        have lh2 := heap_lt XH2.out
        obtain ⟨v0, v1, v2, v3⟩ := box4t XR2.out
        clear h2 hb CG u0 u1 u2 u3 zr zb p2 lr hrl
        cases b with
        | false =>
          have NC := Lib.hid (show ¬ t.callC from fun h => absurd (HB2.out.2 h.2.1) (by decide))
          go_wp2_with fail
          obtain ⟨e1, e2, e3, e4⟩ := END.out w2 false (.inl D22.out) K22.out XR2.out (TP2.out.more fun b hb => by simpa using hb) _ rfl
          obtain ⟨p0, p1, p2, p3⟩ := box4t e1
          refine bodyPost_ret (v := .agg #[.int .i64 4, .int .i64 n, .string s, .slice A m c]) (by simp [results, go_sem, p0, p1, p2, p3]) rfl ?_
          refine ⟨_, t, i1, false, rfl, e4, e2, hi1, Lib.hid ⟨fun h => absurd (HP.out.2.symm.trans h) (by decide), fun _ => ?_⟩, e3⟩
          rw [HP.out.1]
          exact ⟨fun h => absurd h NC.out, fun _ => rfl⟩
        | true =>
          go_wp2_with fail
          refine (pdepth_any t hnd _ _ TP2.out.tin).mono ?_
          rintro e w3 ⟨rfl, h3⟩
          have XH3 := Lib.hid ((h3.block w1.heap.size lh2).trans XH2.out)
          have D33 := Lib.hid (D22.out.below h3)
          have K33 := Lib.hid (K22.out.trans (Kd.of h3 (Nat.le_trans hBw K22.out.low.size)))
          have XR3 := Lib.hid ((h3.block _ lx2).trans XR2.out)
          have TP3 := Lib.hid (TP2.out.below h3)
          clear z0 z1 z2 z3 zb2 zr2 p22 lr2 v0 v1 v2 v3
          obtain ⟨z0, z1, z2, z3⟩ := box4t XH3.out
          have zb3 : ∀ j, w3.frozen? ⟨rb, j, none⟩ = false := fun j => by simp [World.frozen?, D33.out.hr]
          have zr3 : ∀ j, w3.frozen? ⟨w.heap.size, j, none⟩ = false := fun j => by simp [World.frozen?, XR3.out]
          have p33 := cell_of_row w3 rb 0 _ _ _ D33.out.hr
          have lr3 := heap_lt D33.out.hr
          have lx3 := heap_lt XR3.out
          have lh3 := heap_lt XH3.out
          obtain ⟨v0, v1, v2, v3⟩ := box4t XR3.out
          have HPX := Lib.hid h3
          clear h3
          go_wp2_with fail
          obtain ⟨e1, e2, e3, e4⟩ := END.out w3 (decide ((t.depth : Int) ≤ 1000)) (.inl D33.out) K33.out XR3.out (TP3.out.more fun b hb => by simpa using hb) _ rfl
          obtain ⟨p0, p1, p2, p3⟩ := box4t e1
          refine bodyPost_ret (v := .agg #[.int .i64 4, .int .i64 n, .string s, .slice A m c]) (by simp [results, go_sem, p0, p1, p2, p3]) rfl ?_
          refine ⟨_, t, i1, decide ((t.depth : Int) ≤ 1000), rfl, e4, e2, hi1, Lib.hid ⟨fun h => absurd (HP.out.2.symm.trans h) (by decide), fun _ => ?_⟩, e3⟩
          rw [HP.out.1]
          exact ⟨fun h => ⟨rfl, rfl, decide_eq_true (by have := h.2.2; omega)⟩, fun h => decide_eq_false fun h2 => h ⟨KC.out, HB2.out.1 (by first | rfl | trivial), by omega⟩⟩
    · have HK := Lib.hid hk
      have e3 : (k == 3) = false := by simp; omega
      have e4 : (k == 4) = false := by simp; omega
      clear hk
      go_wp2_with fail
      obtain ⟨e1, e2, e3, e4⟩ := END.out w1 false (.inl D2.out) K1.out XR.out (HV.out.more fun b hb => by simpa using hb) _ rfl
      have BA := fun (W : World) => Below.alloc (Below.refl W.heap.size W) (Nat.le_refl _) (Obj.cells #[.int .i64 k, .int .i64 n, .string s, .slice A m c] 24)
      obtain ⟨p0, p1, p2, p3⟩ := box4t (((BA _).block _ (heap_lt e1)).trans e1)
      refine bodyPost_ret (v := .agg #[.int .i64 k, .int .i64 n, .string s, .slice A m c]) (by simp [results, go_sem, p0, p1, p2, p3]) rfl ?_
      refine ⟨_, t, i1, false, rfl, e4.below (BA _), e2.below (BA _), hi1, Lib.hid ⟨fun _ => rfl, fun h => ?_⟩, e3.trans (Kd.of (BA _) (Nat.le_trans hBw e3.low.size))⟩
      have := HX.out.2 h
      cases hp : pdT l 1000 i with
      | none => rfl
      | some p =>
        rw [hp] at this
        obtain ⟨t', j⟩ := p
        obtain ⟨rfl, rfl, _⟩ := this
        refine ⟨fun hc => ?_, fun _ => rfl⟩
        have hkc := hc.1
        have hh := HV.out
        have hno := HK.out
        cases t with
        | nil => exact hkc.elim
        | mk k' n' s' m' a' =>
          have hk2 : k' = 3 ∨ k' = 4 := hkc
          obtain ⟨_, _, he, _⟩ := hh
          have he1 : k = k' := by simp at he; exact he.1
          rw [← he1] at hk2
          exact absurd hk2 hno
end Go.Proofs.YtlgeepjlnjlgdaaDoor
namespace Go.Proofs.YtlgeepjlnjlgdaaDoor
open Go.RowKit

set_option maxRecDepth 100000 in
set_option maxHeartbeats 8000000 in
theorem iequal_any {a b : List Ins} (w : World) {va vb : Value} {B B' : Nat} (ha : GRw w B va a) (hb : GRw w B' vb b) (hfew : a.length ≤ 100000) :
    Calls Tryd.prog 33 #[va, vb] w fun e w' => (∃ r, e = .returned (.bool r) ∧ (r = true ↔ a = b)) ∧ Below w.heap.size w w' := by
  have OA := Lib.hid ha
  have OB := Lib.hid hb
  obtain ⟨A, c, rfl, _, _, _, _⟩ := GRw.open4 ha
  obtain ⟨A', c', rfl, _, _, _, _⟩ := GRw.open4 hb
  clear ha hb
  by_cases hl : a.length = b.length
  · have HL := Lib.hid hl
    have hli : (a.length : Int) = (b.length : Int) := by omega
    clear hl
    go_enter Tryd.func33, Tryd.ntmps33
    go_wp2_with fail
    go_loopw [13] (fun iv wr => ∃ i : Nat, iv = .int .i64 (i : Int) ∧ i ≤ a.length ∧ a.take i = b.take i ∧ Below w.heap.size w wr) (fun iv _ => a.length - (intOf iv).toNat)
    case atStart => exact ⟨0, rfl, Nat.zero_le _, rfl, Below.refl _ _⟩
    case round =>
      obtain ⟨i, rfl, hi, hab, hbw⟩ := hrel
      have HAB := Lib.hid hab
      have BW := Lib.hid hbw
      have OA' := Lib.hid (OA.out.below hbw)
      have OB' := Lib.hid (OB.out.below hbw)
      clear hab hbw
      by_cases hil : i < a.length
      · have hil' : (i : Int) < (a.length : Int) := by omega
        have hjl' : (i : Int) < (b.length : Int) := by omega
        have hjl : i < b.length := by omega
        obtain ⟨g, og, rfl, hg, hcell⟩ := grow OA'.out rfl hil
        obtain ⟨x, hx⟩ : ∃ x, a[i]'hil = x := ⟨_, rfl⟩
        rw [hx] at hcell
        have h0 : wr.cell? ⟨g, og + i * 3, none⟩ = some (.int .i64 x.o) := hcell 0 (by omega)
        have h1 : wr.cell? ⟨g, og + i * 3 + 1, none⟩ = some (.int .i64 x.a) := hcell 1 (by omega)
        have h2 : wr.cell? ⟨g, og + i * 3 + 2, none⟩ = some (.string x.s) := hcell 2 (by omega)
        obtain ⟨g', og', rfl, hg', kcell⟩ := grow OB'.out rfl hjl
        obtain ⟨y, hy⟩ : ∃ y, b[i]'hjl = y := ⟨_, rfl⟩
        rw [hy] at kcell
        have k0 : wr.cell? ⟨g', og' + i * 3, none⟩ = some (.int .i64 y.o) := kcell 0 (by omega)
        have k1 : wr.cell? ⟨g', og' + i * 3 + 1, none⟩ = some (.int .i64 y.a) := kcell 1 (by omega)
        have k2 : wr.cell? ⟨g', og' + i * 3 + 2, none⟩ = some (.string y.s) := kcell 2 (by omega)
        have X0 := Lib.hid hx
        have Y0 := Lib.hid hy
        clear hcell kcell hx hy
        by_cases hxy : x = y
        · subst hxy
          go_wp2_with fail
          go_region
          go_wp2_with fail
          go_roundw
          case rel =>
            refine ⟨i + 1, by go_num, by omega, ?_, by first | exact BW.out.drew | exact BW.out⟩
            rw [List.take_succ_eq_append_getElem hil, List.take_succ_eq_append_getElem hjl, X0.out, Y0.out, HAB.out]
          case measure => simp [intOf]; omega
        · have HXY := Lib.hid hxy
          clear hxy
          have HNE := Lib.hid (show ¬ a = b from fun h => HXY.out (by rw [← X0.out, ← Y0.out]; simp only [h]))
          have done : ∀ (w' : World), (w' = wr ∨ w' = wr.drew) → (∃ r, Ending.returned (Value.bool false) = .returned (.bool r) ∧ (r = true ↔ a = b)) ∧ Below w.heap.size w w' := by
            intro w' hw
            refine ⟨⟨false, rfl, fun h => (by cases h), fun h => absurd h HNE.out⟩, ?_⟩
            rcases hw with rfl | rfl
            · exact BW.out
            · exact BW.out.drew
          have DONE := Lib.hid done
          clear done
          by_cases e0 : x.o = y.o
          · by_cases e1 : x.a = y.a
            · have e2 : ¬ x.s.toList = y.s.toList := ins_ne HXY.out e0 e1
              go_wp2_with fail
              go_region
              go_wp2_with fail
              go_ret
              first | exact DONE.out _ (.inl rfl) | exact DONE.out _ (.inr rfl)
            · go_wp2_with fail
              go_region
              go_wp2_with fail
              go_ret
              first | exact DONE.out _ (.inl rfl) | exact DONE.out _ (.inr rfl)
          · go_wp2_with fail
            go_region
            go_wp2_with fail
            go_ret
            first | exact DONE.out _ (.inl rfl) | exact DONE.out _ (.inr rfl)
      · go_wp2_with fail
        go_ret
        have hi2 : i = a.length := by omega
        subst hi2
        have he : a = b := by
          have h1 := HAB.out
          rw [List.take_length, HL.out, List.take_length] at h1
          exact h1
        exact ⟨⟨true, rfl, fun _ => he, fun _ => rfl⟩, BW.out⟩
  · have hli : ¬ (a.length : Int) = (b.length : Int) := by omega
    go_enter Tryd.func33, Tryd.ntmps33
    go_wp2_with fail
    go_ret
    exact ⟨⟨false, rfl, fun h => (by cases h), fun h => absurd (by rw [h]) hl⟩, Below.refl _ _⟩
end Go.Proofs.YtlgeepjlnjlgdaaDoor
