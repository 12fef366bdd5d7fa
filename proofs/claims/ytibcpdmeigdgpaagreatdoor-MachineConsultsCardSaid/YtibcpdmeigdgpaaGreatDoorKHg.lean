/- Goals of the reference, exactly in its error; its reserved names. Split, exactly: the reference's. -/
import Derived.Test.YtibcpdmeigdgpaaGreatDoorKHc
import Derived.Test.YtibcpdmeigdgpaaGreatDoorKHf
import Derived.Test.YtibcpdmeigdgpaaGreatDoorKRd5
import Derived.Deep.CutBlock
import Derived.Deep.DeepCutAuto
namespace Go.Proofs.YtibcpdmeigdgpaaGreatDoor
open Go.RowKit
def erW (b : Bool) : Int := if b then 101 else 0
set_option maxRecDepth 100000 in
theorem rgoalsx_any {t : T} (hok : t.ok) {S : Nat → Prop} {v : Value} {w : World} (hN : ∀ b, S b → b < w.heap.size) (hv : TP w S t v) : Calls Tryz.prog 31 #[v] w fun e w' =>
 (∃ (A : Option Addr) (m c : Nat), e = .returned (.tuple #[.slice A m c, .int .i64 (erW (wrongT t))])) ∧ Below w.heap.size w w' := by
 obtain ⟨k, n, s, A, m, c, rfl⟩ := hv.agg
 have HV := Lib.hid hv
 have BX := Lib.hid (belA (Below.refl w.heap.size w) (Obj.cells #[.int .i64 k, .int .i64 n, .string s, .slice A m c] 39))
 have HB0 := Lib.hid (heap_alloc_new w (Obj.cells #[.int .i64 k, .int .i64 n, .string s, .slice A m c] 39))
 have HOK := Lib.hid hok
 have C0 := Lib.hid (rcallx_any t _ _ (hv.below BX.out).tin (by have := hok.2; omega))
 obtain ⟨wv, hwv⟩ : ∃ wv, wrongT t = wv := ⟨_, rfl⟩
 rw [hwv] at C0 ⊢
 clear hv hok hwv
 cases wv with
 | true =>
  go_enter Tryz.func31, Tryz.ntmps31
  go_wp2_with fail
  refine C0.out.mono ?_
  rintro e w1 ⟨rfl, h1⟩
  have B1 := Lib.hid (BX.out.trans (h1.mono BX.out.size))
  clear h1 C0
  go_wp2_with fail
  go_ret2
  exact ⟨⟨_, _, _, rfl⟩, B1.out⟩
 | false =>
  go_enter Tryz.func31, Tryz.ntmps31
  go_wp2_with fail
  refine C0.out.mono ?_
  rintro e w1 ⟨rfl, h1⟩
  have B1 := Lib.hid (BX.out.trans (h1.mono BX.out.size))
  have HB1 := Lib.hid ((h1.block w.heap.size (heap_lt HB0.out)).trans HB0.out)
  have hl1 := heap_lt HB1.out
  obtain ⟨x0, x1, x2, x3⟩ := box4t HB1.out
  clear h1 C0
  have C1 := Lib.hid (gather_any t HOK.out S _ w1 (fun b hb => by have := hN b hb; have := B1.out.size; omega) (HV.out.below B1.out))
  go_wp2_with fail
  refine C1.out.mono ?_
  rintro e w2 ⟨⟨v2, gs, Pg, qs, rfl, htl, hgd, hnd, HGK⟩, h2⟩
  obtain ⟨A2, c2, rfl, _⟩ := htl.all
  have B2 := Lib.hid (B1.out.trans (h2.mono B1.out.size))
  clear htl hgd h2 C1 x0 x1 x2 x3 hnd HGK
  go_wp2_with fail
  go_ret2
  exact ⟨⟨_, _, _, rfl⟩, B2.out⟩
theorem among_last {nm s : ByteArray} {ts : List ByteArray} {f i : Nat} (h : WInv s f i ts) (hi : s.size < i) (hK : ∀ x ∈ ts, x.data.toList ≠ nm.data.toList) : inW nm s = false := by
 unfold inW
 rw [h.2 hi, List.any_eq_false]
 intro x hx
 obtain ⟨y, hy, rfl⟩ := List.mem_map.1 hx
 simpa using hK y hy
theorem among_hit {nm s : ByteArray} {ts : List ByteArray} {f i : Nat} {x : ByteArray} (h : WInv s f i (ts ++ [x])) (hx : x.toList = nm.toList) : inW nm s = true := by
 unfold inW
 rw [List.any_eq_true]
 refine ⟨x.data.toList, ?_, by rw [ByteArray.toList_eq, ByteArray.toList_eq] at hx; simpa using hx⟩
 rcases Nat.lt_or_ge s.size i with hi | hi
 ·rw [h.2 hi]; simp
 ·rw [h.1 hi]; simp
set_option maxRecDepth 100000 in
set_option maxHeartbeats 2000000 in
theorem among_any (nm s : ByteArray) (w : World) (hs : s.size ≤ 5000) : Calls Tryz.prog 17 #[.string nm, .string s] w fun e w' => e = .returned (.bool (inW nm s)) ∧ Below w.heap.size w w' := by
 have hb : ∀ (i : Nat) (h : i < s.size), (s[i]'h).toNat = bn s i := bn_eq s
 have BX := Lib.hid (Below.refl w.heap.size w)
 go_enter Tryz.func17, Tryz.ntmps17
 go_wp2_with fail
 go_loopw [5, 6] (fun fv iv wr => ∃ (f i : Nat) (ts : List ByteArray), fv = .int .i64 (f : Int) ∧ iv = .int .i64 (i : Int) ∧ f ≤ i ∧ i ≤ s.size + 1 ∧ Hid (WInv s f i ts ∧ ∀ x ∈ ts, x.data.toList ≠ nm.data.toList) ∧ w = wr) (fun _ iv _ => s.size + 1 - (intOf iv).toNat)
 case atStart => exact ⟨0, 0, [], rfl, rfl, by omega, by omega, Lib.hid ⟨WInv.start s, fun _ h => by cases h⟩, rfl⟩
 case round =>
  obtain ⟨f, i, ts, rfl, rfl, hlo, hup, HI, rfl⟩ := hrel
  by_cases hle : i ≤ s.size
  ·have hle' : (i : Int) ≤ (s.size : Int) := by omega
   by_cases he : i = s.size
   ·obtain rfl : i = s.size := he
    cases hq : ((s.extract f s.size).toList == nm.toList) with
    | true =>
     have HX := Lib.hid (among_hit (nm := nm) HI.out.1.last (by simpa using hq))
     go_wp2
     go_ret
     exact ⟨by rw [HX.out]; rfl, BX.out⟩
    | false =>
     have HX := Lib.hid (show WInv s (s.size + 1) (s.size + 1) (ts ++ [s.extract f s.size]) ∧ ∀ x ∈ ts ++ [s.extract f s.size], x.data.toList ≠ nm.data.toList from ⟨HI.out.1.last, fun x hx => by
      rcases List.mem_append.1 hx with hx | hx
      ·exact HI.out.2 x hx
      ·rw [List.mem_singleton] at hx
       subst hx
       rw [ByteArray.toList_eq, ByteArray.toList_eq] at hq
       simpa using hq⟩)
     go_wp2
     go_roundw
     case rel => exact ⟨_, _, _, by go_num, by go_num, by omega, by omega, HX, by trivial⟩
     case measure => simp [intOf] <;> omega
   ·have he' : ((i : Int) == (s.size : Int)) = false := by simp; omega
    have hlt : (i : Int) < (s.size : Int) := by omega
    cases h32 : ((bn s i : Int) == 32) with
    | true =>
     have HC := Lib.hid (HI.out.1.cut (by omega) (by simp at h32; omega))
     cases hq : ((s.extract f i).toList == nm.toList) with
     | true =>
      have HX := Lib.hid (among_hit (nm := nm) HC.out (by simpa using hq))
      go_wp2
      go_ret
      exact ⟨by rw [HX.out]; rfl, BX.out⟩
     | false =>
      have HX := Lib.hid (show WInv s (i + 1) (i + 1) (ts ++ [s.extract f i]) ∧ ∀ x ∈ ts ++ [s.extract f i], x.data.toList ≠ nm.data.toList from ⟨HC.out, fun x hx => by
       rcases List.mem_append.1 hx with hx | hx
       ·exact HI.out.2 x hx
       ·rw [List.mem_singleton] at hx
        subst hx
        rw [ByteArray.toList_eq, ByteArray.toList_eq] at hq
        simpa using hq⟩)
      go_wp2
      go_roundw
      case rel => exact ⟨_, _, _, by go_num, by go_num, by omega, by omega, HX, by trivial⟩
      case measure => simp [intOf] <;> omega
    | false =>
     have HX := Lib.hid (show WInv s f (i + 1) ts ∧ ∀ x ∈ ts, x.data.toList ≠ nm.data.toList from ⟨HI.out.1.go hlo (by omega) (by intro e; rw [e] at h32; cases h32), HI.out.2⟩)
     go_wp2
     go_roundw
     case rel => exact ⟨f, i + 1, ts, rfl, by go_num, by omega, by omega, HX, by trivial⟩
     case measure => simp [intOf] <;> omega
  ·have HX := Lib.hid (among_last (nm := nm) HI.out.1 (by omega) HI.out.2)
   go_wp2
   go_ret
   exact ⟨by rw [HX.out]; rfl, BX.out⟩
theorem inW_res {nm s : ByteArray} {n : Nat} (hw : wordsF [] s.data.toList = resW n) : inW nm s = resT nm.data.toList n := by
 unfold inW resT
 rw [hw, List.contains_eq_any_beq]
 congr 1
 funext x
 exact Bool.eq_iff_iff.2 ⟨fun h => by simpa using (by simpa using h : x = _).symm, fun h => by simpa using (by simpa using h : _ = x).symm⟩
def resI (nm : ByteArray) (n : Int) : Bool := decide (0 ≤ n) && resT nm.data.toList n.toNat
set_option maxRecDepth 100000 in
set_option maxHeartbeats 2000000 in
theorem rreserved_any (nm : ByteArray) (n : Int) (w : World) : Calls Tryz.prog 7 #[.string nm, .int .i64 n] w fun e w' => e = .returned (.bool (resI nm n)) ∧ Below w.heap.size w w' := by
 have BX := Lib.hid (Below.refl w.heap.size w)
 unfold resI
 by_cases h0 : n = 0
 ·subst h0
  go_enter Tryz.func7, Tryz.ntmps7
  go_wp2_with fail
  refine (among_any nm _ _ (by decide)).mono ?_
  rintro e w1 ⟨rfl, h1⟩
  rw [inW_res (n := 0) (by decide +kernel)]
  go_wp2_with fail
  go_ret
  exact ⟨by simp, h1⟩
 by_cases h1 : n = 1
 ·subst h1
  go_enter Tryz.func7, Tryz.ntmps7
  go_wp2_with fail
  refine (among_any nm _ _ (by decide)).mono ?_
  rintro e w1 ⟨rfl, h1⟩
  rw [inW_res (n := 1) (by decide +kernel)]
  go_wp2_with fail
  go_ret
  exact ⟨by simp, h1⟩
 by_cases h2 : n = 2
 ·subst h2
  go_enter Tryz.func7, Tryz.ntmps7
  go_wp2_with fail
  refine (among_any nm _ _ (by decide)).mono ?_
  rintro e w1 ⟨rfl, h1⟩
  rw [inW_res (n := 2) (by decide +kernel)]
  go_wp2_with fail
  go_ret
  exact ⟨by simp, h1⟩
 by_cases h3 : n = 3
 ·subst h3
  go_enter Tryz.func7, Tryz.ntmps7
  go_wp2_with fail
  refine (among_any nm _ _ (by decide)).mono ?_
  rintro e w1 ⟨rfl, h1⟩
  rw [inW_res (n := 3) (by decide +kernel)]
  go_wp2_with fail
  go_ret
  exact ⟨by simp, h1⟩
 by_cases h4 : n = 4
 ·subst h4
  have key : (nm.toList == [99, 97, 108, 108]) = resT nm.data.toList 4 := by
   rw [ByteArray.toList_eq]
   exact Bool.eq_iff_iff.2 (by simp [resT, resW])
  cases hq : (nm.toList == [99, 97, 108, 108]) with
  | true =>
   rw [hq] at key
   have KEY := Lib.hid key
   clear key
   go_enter Tryz.func7, Tryz.ntmps7
   go_wp2_with fail
   go_ret
   exact ⟨by rw [show (4 : Int).toNat = 4 from rfl, ← KEY.out]; rfl, BX.out⟩
  | false =>
   rw [hq] at key
   have KEY := Lib.hid key
   clear key
   go_enter Tryz.func7, Tryz.ntmps7
   go_wp2_with fail
   go_ret
   exact ⟨by rw [show (4 : Int).toNat = 4 from rfl, ← KEY.out]; rfl, BX.out⟩
 have key : (decide (0 ≤ n) && resT nm.data.toList n.toNat) = false := by
  by_cases hn : 0 ≤ n
  ·rw [show resT nm.data.toList n.toNat = false by unfold resT; rw [resW_none (by omega)]; rfl]
   simp
  ·simp [hn]
 rw [key]
 clear key
 go_enter Tryz.func7, Tryz.ntmps7
 go_wp2_with fail
 go_ret
 exact ⟨rfl, BX.out⟩
end Go.Proofs.YtibcpdmeigdgpaaGreatDoor
namespace Go.Proofs.YtibcpdmeigdgpaaGreatDoor
open Go.RowKit
def splitH (h b : T) : Except Int (T × T) := if (nameT h).isNone || ctlT h || isN h [58, 45] 1 || isN h [58, 45] 2 then .error 100 else if wrongT b then .error 101 else .ok (h, b)
theorem splitT_eq {t : T} {b : Bool} (h : isN t [58, 45] 2 = b) : splitT t = splitH (if b = true then neckT t 0 else t) (if b = true then neckT t 1 else trueT) := by subst h; rfl
def SplR (r : Except Int (T × T)) (S : Nat → Prop) (w' : World) (er : Int) (hv bv : Value) : Prop := match r with
 | .error x => er = x ∧ x ≠ 0
 | .ok (h, b) => er = 0 ∧ TP w' S h hv ∧ TP w' S b bv ∧ h.ok ∧ b.ok
def SplitX (r : Except Int (T × T)) (S : Nat → Prop) (w : World) (e : Ending) (w' : World) : Prop :=
 (∃ (h0 h1 : Int) (h2 : ByteArray) (h3 : Option Addr) (h4 h5 : Nat) (b0 b1 : Int) (b2 : ByteArray) (b3 : Option Addr) (b4 b5 : Nat) (er : Int), e = .returned (.tuple #[.agg #[.int .i64 h0, .int .i64 h1, .string h2, .slice h3 h4 h5], .agg #[.int .i64 b0, .int .i64 b1, .string b2, .slice b3 b4 b5], .int .i64 er]) ∧ Hid (SplR r S w' er (.agg #[.int .i64 h0, .int .i64 h1, .string h2, .slice h3 h4 h5]) (.agg #[.int .i64 b0, .int .i64 b1, .string b2, .slice b3 b4 b5]))) ∧ Below w.heap.size w w'
theorem spl_100 {h b : T} (hh : ((nameT h).isNone || ctlT h || isN h [58, 45] 1 || isN h [58, 45] 2) = true) (S : Nat → Prop) (W : World) (x y : Value) : SplR (splitH h b) S W 100 x y := by
 unfold splitH
 rw [if_pos hh]
 exact ⟨rfl, by decide⟩
theorem spl_101 {h b : T} (hh : ((nameT h).isNone || ctlT h || isN h [58, 45] 1 || isN h [58, 45] 2) = false) (hb : wrongT b = true) (S : Nat → Prop) (W : World) (x y : Value) : SplR (splitH h b) S W 101 x y := by
 unfold splitH
 rw [hh, if_neg (by decide), if_pos hb]
 exact ⟨rfl, by decide⟩
theorem spl_ok {h b : T} (hh : ((nameT h).isNone || ctlT h || isN h [58, 45] 1 || isN h [58, 45] 2) = false) (hb : wrongT b = false) {S : Nat → Prop} {W : World} {x y : Value} (h1 : TP W S h x) (h2 : TP W S b y) (h3 : h.ok) (h4 : b.ok) : SplR (splitH h b) S W 0 x y := by
 unfold splitH
 rw [hh, if_neg (by decide), if_neg (by rw [hb]; decide)]
 exact ⟨rfl, h1, h2, h3, h4⟩
structure SpB (w W : World) (h0 h1 : Int) (h2 : ByteArray) (h3 : Option Addr) (h4 h5 : Nat) (b0 b1 : Int) (b2 : ByteArray) (b3 : Option Addr) (b4 b5 : Nat) : Prop where
 r1 : W.heap[w.heap.size + 1]? = some (.cells #[.int .i64 0, .int .i64 0, .string ⟨#[]⟩, .slice none 0 0] 39 (0, 0))
 r2 : W.heap[w.heap.size + 1 + 1]? = some (.cells #[.int .i64 0, .int .i64 0, .string ⟨#[]⟩, .slice none 0 0] 39 (0, 0))
 hd : W.heap[w.heap.size + 1 + 1 + 1]? = some (.cells #[.int .i64 h0, .int .i64 h1, .string h2, .slice h3 h4 h5] 39 (0, 0))
 bd : W.heap[w.heap.size + 1 + 1 + 1 + 1]? = some (.cells #[.int .i64 b0, .int .i64 b1, .string b2, .slice b3 b4 b5] 39 (0, 0))
 low : Below w.heap.size w W
 lt : w.heap.size + 5 ≤ W.heap.size
structure SpM (t : T) (S : Nat → Prop) (w W : World) (th tb : T) (h0 h1 : Int) (h2 : ByteArray) (h3 : Option Addr) (h4 h5 : Nat) (b0 b1 : Int) (b2 : ByteArray) (b3 : Option Addr) (b4 b5 : Nat) : Prop where
 b : SpB w W h0 h1 h2 h3 h4 h5 b0 b1 b2 b3 b4 b5
 vh : TP W S th (.agg #[.int .i64 h0, .int .i64 h1, .string h2, .slice h3 h4 h5])
 vb : TP W S tb (.agg #[.int .i64 b0, .int .i64 b1, .string b2, .slice b3 b4 b5])
 oh : th.ok
 ob : tb.ok
 eq : splitT t = splitH th tb
theorem SpB.below {w W W' : World} {h0 h1 : Int} {h2 : ByteArray} {h3 : Option Addr} {h4 h5 : Nat} {b0 b1 : Int} {b2 : ByteArray} {b3 : Option Addr} {b4 b5 : Nat} (h : SpB w W h0 h1 h2 h3 h4 h5 b0 b1 b2 b3 b4 b5) (hb : Below W.heap.size W W') : SpB w W' h0 h1 h2 h3 h4 h5 b0 b1 b2 b3 b4 b5 :=
 ⟨(hb.block _ (heap_lt h.r1)).trans h.r1, (hb.block _ (heap_lt h.r2)).trans h.r2, (hb.block _ (heap_lt h.hd)).trans h.hd, (hb.block _ (heap_lt h.bd)).trans h.bd, h.low.trans (hb.mono h.low.size), Nat.le_trans h.lt hb.size⟩
theorem SpM.below {t th tb : T} {S : Nat → Prop} {w W W' : World} {h0 h1 : Int} {h2 : ByteArray} {h3 : Option Addr} {h4 h5 : Nat} {b0 b1 : Int} {b2 : ByteArray} {b3 : Option Addr} {b4 b5 : Nat} (h : SpM t S w W th tb h0 h1 h2 h3 h4 h5 b0 b1 b2 b3 b4 b5) (hb : Below W.heap.size W W') : SpM t S w W' th tb h0 h1 h2 h3 h4 h5 b0 b1 b2 b3 b4 b5 :=
 ⟨h.b.below hb, h.vh.below hb, h.vb.below hb, h.oh, h.ob, h.eq⟩
theorem SpB.put {S : Nat → Prop} {w W : World} {h0 h1 : Int} {h2 : ByteArray} {h3 : Option Addr} {h4 h5 : Nat} {b0 b1 : Int} {b2 : ByteArray} {b3 : Option Addr} {b4 b5 : Nat} (h : SpB w W h0 h1 h2 h3 h4 h5 b0 b1 b2 b3 b4 b5) (hN : ∀ b, S b → b < w.heap.size) (u0 u1 u2 u3 v0 v1 v2 v3 : Value) {W' : World}
 (hW : (((((((W.setCell ⟨w.heap.size + 1, 0, none⟩ u0).setCell ⟨w.heap.size + 1, 1, none⟩ u1).setCell ⟨w.heap.size + 1, 2, none⟩ u2).setCell ⟨w.heap.size + 1, 3, none⟩ u3).setCell ⟨w.heap.size + 1 + 1, 0, none⟩ v0).setCell ⟨w.heap.size + 1 + 1, 1, none⟩ v1).setCell ⟨w.heap.size + 1 + 1, 2, none⟩ v2).setCell ⟨w.heap.size + 1 + 1, 3, none⟩ v3 = W') :
 W'.heap[w.heap.size + 1]? = some (.cells #[u0, u1, u2, u3] 39 (0, 0)) ∧ W'.heap[w.heap.size + 1 + 1]? = some (.cells #[v0, v1, v2, v3] 39 (0, 0)) ∧ Below w.heap.size w W' ∧ ∀ (u : T) (x : Value), TP W S u x → TP W' S u x := by
 have P1 := box_put4 h.r1 u0 u1 u2 u3 rfl
 have P2 := box_put4 ((P1.2.2.1 (w.heap.size + 1 + 1) (by omega)).trans h.r2) v0 v1 v2 v3 hW
 exact ⟨(P2.2.2.1 (w.heap.size + 1) (by omega)).trans P1.1, P2.1, P2.2.2.2 _ _ (by omega) (P1.2.2.2 _ _ (by omega) h.low), fun u x hu => TP.keep (w' := W') (S' := S) (fun b cs f hS hb => by
  have hS' := hN b hS
  have := h.low
  exact ⟨(P2.2.2.1 b (by omega)).trans ((P1.2.2.1 b (by omega)).trans hb), hS⟩) hu⟩
theorem SpB.fz {w W : World} {h0 h1 : Int} {h2 : ByteArray} {h3 : Option Addr} {h4 h5 : Nat} {b0 b1 : Int} {b2 : ByteArray} {b3 : Option Addr} {b4 b5 : Nat} (h : SpB w W h0 h1 h2 h3 h4 h5 b0 b1 b2 b3 b4 b5) : (∀ j, W.frozen? ⟨w.heap.size + 1, j, none⟩ = false) ∧ (∀ j, W.frozen? ⟨w.heap.size + 1 + 1, j, none⟩ = false) ∧ (∀ j, W.frozen? ⟨w.heap.size + 1 + 1 + 1, j, none⟩ = false) ∧ (∀ j, W.frozen? ⟨w.heap.size + 1 + 1 + 1 + 1, j, none⟩ = false) :=
 ⟨fun j => by simp [World.frozen?, h.r1], fun j => by simp [World.frozen?, h.r2], fun j => by simp [World.frozen?, h.hd], fun j => by simp [World.frozen?, h.bd]⟩
theorem true_ok : trueT.ok := ⟨⟨.inr (.inr (.inl ⟨rfl, rfl, by decide, rfl⟩)), fun i h => absurd h (by omega)⟩, by show 1 + 0 ≤ 4000; decide⟩
theorem isN_two {t : T} {l : List UInt8} (h : isN t l 2 = true) : ∃ n s a, t = .mk 4 n s 2 a ∧ s.data.toList = l := by
 cases t with
 | nil => simp [isN, nameT] at h
 | mk k n s m a =>
  by_cases h3 : k = 3
  ·subst h3; simp [isN, nameT] at h
  ·by_cases h4 : k = 4
   ·subst h4
    simp [isN, nameT] at h
    obtain ⟨h1, rfl⟩ := h
    exact ⟨n, s, a, rfl, h1⟩
   ·simp [isN, nameT, h3, h4] at h
theorem name_none {k n : Int} {s : ByteArray} {m : Nat} {a : Nat → T} {z : ByteArray} {q : Nat} {b : Bool} (h : (b = true ∧ z = s ∧ (k = 3 ∧ q = 0 ∨ k = 4 ∧ q = m)) ∨ (b = false ∧ k ≠ 3 ∧ k ≠ 4 ∧ z = ⟨#[]⟩ ∧ q = 0)) : (nameT (.mk k n s m a)).isNone = !b := by
 rcases h with ⟨rfl, rfl, ⟨rfl, rfl⟩ | ⟨rfl, rfl⟩⟩ | ⟨rfl, h3, h4, rfl, rfl⟩
 ·rfl
 ·rfl
 ·simp [nameT, h3, h4]
theorem SpB.start {w : World} {q0 q1 : Int} {q2 : ByteArray} {q3 : Option Addr} {q4 q5 : Nat} {W : World}
 (hW : W = ((((w.alloc (Obj.cells #[.int .i64 q0, .int .i64 q1, .string q2, .slice q3 q4 q5] 39)).alloc (Obj.cells #[.int .i64 0, .int .i64 0, .string ⟨#[]⟩, .slice none 0 0] 39)).alloc (Obj.cells #[.int .i64 0, .int .i64 0, .string ⟨#[]⟩, .slice none 0 0] 39)).alloc (Obj.cells #[.int .i64 q0, .int .i64 q1, .string q2, .slice q3 q4 q5] 39)).alloc (Obj.cells #[.int .i64 3, .int .i64 0, .string ⟨#[116, 114, 117, 101]⟩, .slice none 0 0] 39)) :
 SpB w W q0 q1 q2 q3 q4 q5 3 0 ⟨#[116, 114, 117, 101]⟩ none 0 0 := by
 have st : ∀ (u : World) (o o' : Obj) (g : Nat), u.heap[g]? = some o' → (u.alloc o).heap[g]? = some o' := fun u o o' g h => (Below.heap_alloc _ _ _ (heap_lt h)).trans h
 have nw : ∀ (u : World) (o : Obj) (g : Nat), g = u.heap.size → (u.alloc o).heap[g]? = some o := fun u o g h => heap_at u o h
 refine ⟨?_, ?_, ?_, ?_, by rw [hW]; exact belA (belA (belA (belA (belA (Below.refl _ _) _) _) _) _) _, by rw [hW]; simp⟩
 ·rw [hW]; exact st _ _ _ _ (st _ _ _ _ (st _ _ _ _ (nw _ _ _ (by simp))))
 ·rw [hW]; exact st _ _ _ _ (st _ _ _ _ (nw _ _ _ (by simp)))
 ·rw [hW]; exact st _ _ _ _ (nw _ _ _ (by simp))
 ·rw [hW]; exact nw _ _ _ (by simp)
theorem SpM.start {t : T} {S : Nat → Prop} {w W : World} {q0 q1 : Int} {q2 : ByteArray} {q3 : Option Addr} {q4 q5 : Nat} (h : SpB w W q0 q1 q2 q3 q4 q5 3 0 ⟨#[116, 114, 117, 101]⟩ none 0 0) (hv : TP w S t (.agg #[.int .i64 q0, .int .i64 q1, .string q2, .slice q3 q4 q5])) (hok : t.ok) (he : isN t [58, 45] 2 = false) :
 SpM t S w W t trueT q0 q1 q2 q3 q4 q5 3 0 ⟨#[116, 114, 117, 101]⟩ none 0 0 := ⟨h, hv.below h.low, TP.leaf _ _ _ _ _, hok, true_ok, splitT_eq he⟩
theorem SpM.drew {t th tb : T} {S : Nat → Prop} {w W : World} {h0 h1 : Int} {h2 : ByteArray} {h3 : Option Addr} {h4 h5 : Nat} {b0 b1 : Int} {b2 : ByteArray} {b3 : Option Addr} {b4 b5 : Nat} (h : SpM t S w W th tb h0 h1 h2 h3 h4 h5 b0 b1 b2 b3 b4 b5) : SpM t S w W.drew th tb h0 h1 h2 h3 h4 h5 b0 b1 b2 b3 b4 b5 := h.below (Below.refl _ _).drew
theorem SpM.neck {n : Int} {s : ByteArray} {a : Nat → T} {S : Nat → Prop} {w W : World} {h0 h1 : Int} {h2 : ByteArray} {h3 : Option Addr} {h4 h5 : Nat} {b0 b1 : Int} {b2 : ByteArray} {b3 : Option Addr} {b4 b5 : Nat} (h : SpB w W h0 h1 h2 h3 h4 h5 b0 b1 b2 b3 b4 b5) (he : isN (.mk 4 n s 2 a) [58, 45] 2 = true) (hok : (T.mk 4 n s 2 a).ok) (hN : ∀ b, S b → b < w.heap.size) {c0 c1 : Int} {c2 : ByteArray} {c3 : Option Addr} {c4 c5 : Nat} {d0 d1 : Int} {d2 : ByteArray} {d3 : Option Addr} {d4 d5 : Nat}
 (h0 : TP W S (a 0) (.agg #[.int .i64 c0, .int .i64 c1, .string c2, .slice c3 c4 c5])) (h1 : TP W S (a 1) (.agg #[.int .i64 d0, .int .i64 d1, .string d2, .slice d3 d4 d5])) {W' : World}
 (hW : (((((((W.setCell ⟨w.heap.size + 1 + 1 + 1, 0, none⟩ (.int .i64 c0)).setCell ⟨w.heap.size + 1 + 1 + 1, 1, none⟩ (.int .i64 c1)).setCell ⟨w.heap.size + 1 + 1 + 1, 2, none⟩ (.string c2)).setCell ⟨w.heap.size + 1 + 1 + 1, 3, none⟩ (.slice c3 c4 c5)).setCell ⟨w.heap.size + 1 + 1 + 1 + 1, 0, none⟩ (.int .i64 d0)).setCell ⟨w.heap.size + 1 + 1 + 1 + 1, 1, none⟩ (.int .i64 d1)).setCell ⟨w.heap.size + 1 + 1 + 1 + 1, 2, none⟩ (.string d2)).setCell ⟨w.heap.size + 1 + 1 + 1 + 1, 3, none⟩ (.slice d3 d4 d5) = W') :
 SpM (.mk 4 n s 2 a) S w W' (a 0) (a 1) c0 c1 c2 c3 c4 c5 d0 d1 d2 d3 d4 d5 := by
 have P1 := box_put4 h.hd (.int .i64 c0) (.int .i64 c1) (.string c2) (.slice c3 c4 c5) rfl
 have P2 := box_put4 ((P1.2.2.1 (w.heap.size + 1 + 1 + 1 + 1) (by omega)).trans h.bd) (.int .i64 d0) (.int .i64 d1) (.string d2) (.slice d3 d4 d5) hW
 have PX : ∀ (u : T) (x : Value), TP W S u x → TP W' S u x := fun u x hu => TP.keep (w' := W') (S' := S) (fun b cs f hS hb => by
  have hS' := hN b hS
  exact ⟨(P2.2.2.1 b (by omega)).trans ((P1.2.2.1 b (by omega)).trans hb), hS⟩) hu
 refine ⟨⟨(P2.2.2.1 _ (by omega)).trans ((P1.2.2.1 _ (by omega)).trans h.r1), (P2.2.2.1 _ (by omega)).trans ((P1.2.2.1 _ (by omega)).trans h.r2), (P2.2.2.1 _ (by omega)).trans P1.1, P2.1, P2.2.2.2 _ _ (by omega) (P1.2.2.2 _ _ (by omega) h.low), by rw [← hW]; simpa using h.lt⟩, PX _ _ h0, PX _ _ h1, hok.arg (by omega), hok.arg (by omega), splitT_eq he⟩
set_option maxRecDepth 100000 in
set_option maxHeartbeats 8000000 in
theorem rsplitx_any {t : T} (hok : t.ok) {S : Nat → Prop} {v : Value} {w : World} (hN : ∀ b, S b → b < w.heap.size) (hv : TP w S t v) : Calls Tryz.prog 14 #[v] w fun e w' => SplitX (splitT t) S w e w' := by
 obtain ⟨q0, q1, q2, q3, q4, q5, rfl⟩ := hv.agg
 have HV := Lib.hid hv
 have HOK := Lib.hid hok
 have HN := Lib.hid hN
 obtain ⟨W0, hW0⟩ : ∃ W0, W0 = ((((w.alloc (Obj.cells #[.int .i64 q0, .int .i64 q1, .string q2, .slice q3 q4 q5] 39)).alloc (Obj.cells #[.int .i64 0, .int .i64 0, .string ⟨#[]⟩, .slice none 0 0] 39)).alloc (Obj.cells #[.int .i64 0, .int .i64 0, .string ⟨#[]⟩, .slice none 0 0] 39)).alloc (Obj.cells #[.int .i64 q0, .int .i64 q1, .string q2, .slice q3 q4 q5] 39)).alloc (Obj.cells #[.int .i64 3, .int .i64 0, .string ⟨#[116, 114, 117, 101]⟩, .slice none 0 0] 39) := ⟨_, rfl⟩
 have hs0 : W0.heap.size = w.heap.size + 5 := by rw [hW0]; simp
 have HT0 := Lib.hid (show W0.heap[w.heap.size]? = some (.cells #[.int .i64 q0, .int .i64 q1, .string q2, .slice q3 q4 q5] 39 (0, 0)) by
  have st : ∀ (u : World) (o o' : Obj) (g : Nat), u.heap[g]? = some o' → (u.alloc o).heap[g]? = some o' := fun u o o' g h => (Below.heap_alloc _ _ _ (heap_lt h)).trans h
  rw [hW0]
  exact st _ _ _ _ (st _ _ _ _ (st _ _ _ _ (st _ _ _ _ (heap_at _ _ rfl)))))
 have HW0 := Lib.hid hW0
 cases t with
 | nil => exact hv.tin.elim
 | mk k n s m a =>
  obtain ⟨e0, e1, e2, e4, hmc, hA, hargs⟩ := hv.args
  injection e0 with _ e0
  injection e1 with _ e1
  injection e2 with e2
  subst e0; subst e1; subst e2; subst e4
  obtain ⟨z, q, b, he, hz⟩ := nameV_cases q0 q2 q4
  have CI := Lib.hid (fun W => ris_any q0 q1 q2 q3 q4 q5 ⟨#[58, 45]⟩ 2 he W)
  have e58 := isN_is (n := q1) (a := a) hz [58, 45] 2
  obtain ⟨bv, hbv⟩ : ∃ bv, isN (.mk q0 q1 q2 q4 a) [58, 45] 2 = bv := ⟨_, rfl⟩
  have HBV := Lib.hid hbv
  rw [show (ba [58, 45] : ByteArray) = ⟨#[58, 45]⟩ from rfl, hbv] at e58
  rw [show ((2 : Nat) : Int) = 2 from rfl] at e58
  rw [← e58] at CI
  clear hv hok hW0 hargs hA e58 he hz hbv hN
  go_enter Tryz.func14, Tryz.ntmps14
  go_wp2_with fail
  rw [← HW0.out]
  refine (CI.out _).mono ?_
  rintro e w1 ⟨rfl, hx⟩
  have HX1 := Lib.hid hx
  have HT1 := Lib.hid ((hx.block w.heap.size (heap_lt HT0.out)).trans HT0.out)
  have hl1 := heap_lt HT1.out
  obtain ⟨x0, x1, x2, x3⟩ := box4t HT1.out
  clear hx CI HT0
  go_upto_if 15 with fail
  go_cut [] (fun wx => ∃ (th tb : T) (h0 h1 : Int) (h2 : ByteArray) (h3 : Option Addr) (h4 h5 : Nat) (b0 b1 : Int) (b2 : ByteArray) (b3 : Option Addr) (b4 b5 : Nat), SpM (.mk q0 q1 q2 q4 a) S w wx th tb h0 h1 h2 h3 h4 h5 b0 b1 b2 b3 b4 b5)
  case first =>
   cases bv with
   | false =>
    have S1 := Lib.hid ((SpM.start (SpB.start HW0.out) HV.out HOK.out HBV.out).below HX1.out)
    go_wp2_with fail
    go_meet
    exact ⟨_, _, _, _, _, _, _, _, _, _, _, _, _, _, S1.out⟩
   | true =>
    obtain ⟨n1, s1, a1, he, _⟩ := isN_two HBV.out
    injection he with e1 e2 e3 e4 e5
    subst e1; subst e2; subst e3; subst e4; subst e5
    have S1 := Lib.hid ((SpB.start HW0.out).below HX1.out)
    obtain ⟨_, _, _, _, _, _, hargs⟩ := (HV.out.below S1.out.low).args
    obtain ⟨g, c0, c1, c2, c3, c4, c5, rfl, hgN, hgl, d0, d1, d2, d3, hta⟩ := hargs 0 (by omega)
    obtain ⟨g', e0, e1, e2, e3, e4, e5, hA, _, _, f0, f1, f2, f3, htb⟩ := hargs 1 (by omega)
    injection hA with hA
    injection hA with hA _
    subst hA
    simp only [Nat.zero_mul, Nat.zero_add, Nat.one_mul] at d0 d1 d2 d3 f0 f1 f2 f3
    have hgn := HN.out g hgN
    have gn3 : g ≠ w.heap.size + 1 + 1 + 1 := by omega
    have gn4 : g ≠ w.heap.size + 1 + 1 + 1 + 1 := by omega
    have gn0 : w.heap.size ≠ w.heap.size + 1 + 1 + 1 := by omega
    obtain ⟨_, _, zf, uf⟩ := S1.out.fz
    obtain ⟨y0, y1, y2, y3⟩ := box4t S1.out.hd
    obtain ⟨z0, z1, z2, z3⟩ := box4t S1.out.bd
    have HTA := Lib.hid hta
    have HTB := Lib.hid htb
    clear hargs hta htb hgN
    go_wp2_with fail
    go_meet
    exact ⟨_, _, _, _, _, _, _, _, _, _, _, _, _, _, SpM.neck S1.out HBV.out HOK.out HN.out HTA.out HTB.out rfl⟩
  case rest =>
   obtain ⟨th, tb, h0, h1, h2, h3, h4, h5, b0, b1, b2, b3, b4, b5, hm⟩ := hcut
   cases th with
   | nil => exact hm.vh.tin.elim
   | mk k1 n1 s1 m1 ah =>
    obtain ⟨e0, e1, e2, e4, _, _, _⟩ := hm.vh.args
    injection e0 with _ e0
    injection e1 with _ e1
    injection e2 with e2
    subst e0; subst e1; subst e2; subst e4
    have M := Lib.hid hm
    obtain ⟨z', q', bb, he', hz'⟩ := nameV_cases h0 h2 h4
    have HEQ := Lib.hid hm.eq
    obtain ⟨cv, hcv⟩ : ∃ cv, ctlT (.mk h0 h1 h2 h4 ah) = cv := ⟨_, rfl⟩
    obtain ⟨i1, hi1⟩ : ∃ i1, isN (.mk h0 h1 h2 h4 ah) [58, 45] 1 = i1 := ⟨_, rfl⟩
    obtain ⟨i2, hi2⟩ : ∃ i2, isN (.mk h0 h1 h2 h4 ah) [58, 45] 2 = i2 := ⟨_, rfl⟩
    have HG := Lib.hid (show ((nameT (.mk h0 h1 h2 h4 ah)).isNone || ctlT (.mk h0 h1 h2 h4 ah) || isN (.mk h0 h1 h2 h4 ah) [58, 45] 1 || isN (.mk h0 h1 h2 h4 ah) [58, 45] 2) = (!bb || cv || i1 || i2) by rw [name_none hz', hcv, hi1, hi2])
    have CN := Lib.hid (fun W => rname_any h0 h1 h2 h3 h4 h5 W)
    rw [he'] at CN
    have CC := Lib.hid (fun W => rcontrol_any h0 h1 h2 h3 h4 h5 he' W)
    rw [ctl_is (n := h1) (a := ah) hz', hcv] at CC
    have f1 := isN_is (n := h1) (a := ah) hz' [58, 45] 1
    have f2 := isN_is (n := h1) (a := ah) hz' [58, 45] 2
    rw [show (ba [58, 45] : ByteArray) = ⟨#[58, 45]⟩ from rfl] at f1 f2
    rw [hi1, show ((1 : Nat) : Int) = 1 from rfl] at f1
    rw [hi2, show ((2 : Nat) : Int) = 2 from rfl] at f2
    have C1 := Lib.hid (fun W => ris_any h0 h1 h2 h3 h4 h5 ⟨#[58, 45]⟩ 1 he' W)
    have C2 := Lib.hid (fun W => ris_any h0 h1 h2 h3 h4 h5 ⟨#[58, 45]⟩ 2 he' W)
    rw [← f1] at C1
    rw [← f2] at C2
    clear hm he' hz' hcv hi1 hi2 f1 f2
    have hlM := M.out.b.lt
    obtain ⟨y0, y1, y2, y3⟩ := box4t M.out.b.hd
    obtain ⟨z0, z1, z2, z3⟩ := box4t M.out.b.r1
    obtain ⟨u0, u1, u2, u3⟩ := box4t M.out.b.r2
    obtain ⟨v0, v1, v2, v3⟩ := box4t M.out.b.bd
    obtain ⟨zf, uf, _, _⟩ := M.out.b.fz
    go_wp2_with fail
    refine (CN.out _).mono ?_
    rintro e w2 ⟨rfl, hx⟩
    have S2 := Lib.hid (M.out.below hx)
    clear hx CN
    clear y0 y1 y2 y3 z0 z1 z2 z3 u0 u1 u2 u3 v0 v1 v2 v3 zf uf
    have hlS2 := S2.out.b.lt
    obtain ⟨y0, y1, y2, y3⟩ := box4t S2.out.b.hd
    obtain ⟨z0, z1, z2, z3⟩ := box4t S2.out.b.r1
    obtain ⟨u0, u1, u2, u3⟩ := box4t S2.out.b.r2
    obtain ⟨v0, v1, v2, v3⟩ := box4t S2.out.b.bd
    obtain ⟨zf, uf, _, _⟩ := S2.out.b.fz
    cases bb with
    | false =>
     have HR := Lib.hid (show ∀ S W x y, SplR (splitH (.mk h0 h1 h2 h4 ah) tb) S W 100 x y from fun S W x y => spl_100 (by rw [HG.out]; simp) S W x y)
     go_wp2_with fail
     obtain ⟨g1, g2, g3, _⟩ := S2.out.b.put HN.out (.int .i64 0) (.int .i64 0) (.string ⟨#[]⟩) (.slice none 0 0) (.int .i64 0) (.int .i64 0) (.string ⟨#[]⟩) (.slice none 0 0) rfl
     obtain ⟨p0, p1, p2, p3⟩ := box4t g1
     obtain ⟨o0, o1, o2, o3⟩ := box4t g2
     refine bodyPost_ret (v := .tuple #[.agg #[.int .i64 0, .int .i64 0, .string ⟨#[]⟩, .slice none 0 0], .agg #[.int .i64 0, .int .i64 0, .string ⟨#[]⟩, .slice none 0 0], .int .i64 100]) (by simp [results, go_sem, p0, p1, p2, p3, o0, o1, o2, o3]) rfl ?_
     exact ⟨⟨_, _, _, _, _, _, _, _, _, _, _, _, _, rfl, Lib.hid (by rw [HEQ.out]; exact HR.out _ _ _ _)⟩, g3⟩
    | true =>
     go_wp2_with fail
     refine (CC.out _).mono ?_
     rintro e w3 ⟨rfl, hx⟩
     have S3 := Lib.hid (S2.out.below hx)
     clear hx CC
     clear y0 y1 y2 y3 z0 z1 z2 z3 u0 u1 u2 u3 v0 v1 v2 v3 zf uf
     have hlS3 := S3.out.b.lt
     obtain ⟨y0, y1, y2, y3⟩ := box4t S3.out.b.hd
     obtain ⟨z0, z1, z2, z3⟩ := box4t S3.out.b.r1
     obtain ⟨u0, u1, u2, u3⟩ := box4t S3.out.b.r2
     obtain ⟨v0, v1, v2, v3⟩ := box4t S3.out.b.bd
     obtain ⟨zf, uf, _, _⟩ := S3.out.b.fz
     cases cv with
     | true =>
      have HR := Lib.hid (show ∀ S W x y, SplR (splitH (.mk h0 h1 h2 h4 ah) tb) S W 100 x y from fun S W x y => spl_100 (by rw [HG.out]; simp) S W x y)
      go_wp2_with fail
      obtain ⟨g1, g2, g3, _⟩ := S3.out.b.put HN.out (.int .i64 0) (.int .i64 0) (.string ⟨#[]⟩) (.slice none 0 0) (.int .i64 0) (.int .i64 0) (.string ⟨#[]⟩) (.slice none 0 0) rfl
      obtain ⟨p0, p1, p2, p3⟩ := box4t g1
      obtain ⟨o0, o1, o2, o3⟩ := box4t g2
      refine bodyPost_ret (v := .tuple #[.agg #[.int .i64 0, .int .i64 0, .string ⟨#[]⟩, .slice none 0 0], .agg #[.int .i64 0, .int .i64 0, .string ⟨#[]⟩, .slice none 0 0], .int .i64 100]) (by simp [results, go_sem, p0, p1, p2, p3, o0, o1, o2, o3]) rfl ?_
      exact ⟨⟨_, _, _, _, _, _, _, _, _, _, _, _, _, rfl, Lib.hid (by rw [HEQ.out]; exact HR.out _ _ _ _)⟩, g3⟩
     | false =>
      go_wp2_with fail
      refine (C1.out _).mono ?_
      rintro e w4 ⟨rfl, hx⟩
      have S4 := Lib.hid (S3.out.below hx)
      clear hx C1
      clear y0 y1 y2 y3 z0 z1 z2 z3 u0 u1 u2 u3 v0 v1 v2 v3 zf uf
      have hlS4 := S4.out.b.lt
      obtain ⟨y0, y1, y2, y3⟩ := box4t S4.out.b.hd
      obtain ⟨z0, z1, z2, z3⟩ := box4t S4.out.b.r1
      obtain ⟨u0, u1, u2, u3⟩ := box4t S4.out.b.r2
      obtain ⟨v0, v1, v2, v3⟩ := box4t S4.out.b.bd
      obtain ⟨zf, uf, _, _⟩ := S4.out.b.fz
      cases i1 with
      | true =>
       have HR := Lib.hid (show ∀ S W x y, SplR (splitH (.mk h0 h1 h2 h4 ah) tb) S W 100 x y from fun S W x y => spl_100 (by rw [HG.out]; simp) S W x y)
       go_wp2_with fail
       obtain ⟨g1, g2, g3, _⟩ := S4.out.b.put HN.out (.int .i64 0) (.int .i64 0) (.string ⟨#[]⟩) (.slice none 0 0) (.int .i64 0) (.int .i64 0) (.string ⟨#[]⟩) (.slice none 0 0) rfl
       obtain ⟨p0, p1, p2, p3⟩ := box4t g1
       obtain ⟨o0, o1, o2, o3⟩ := box4t g2
       refine bodyPost_ret (v := .tuple #[.agg #[.int .i64 0, .int .i64 0, .string ⟨#[]⟩, .slice none 0 0], .agg #[.int .i64 0, .int .i64 0, .string ⟨#[]⟩, .slice none 0 0], .int .i64 100]) (by simp [results, go_sem, p0, p1, p2, p3, o0, o1, o2, o3]) rfl ?_
       exact ⟨⟨_, _, _, _, _, _, _, _, _, _, _, _, _, rfl, Lib.hid (by rw [HEQ.out]; exact HR.out _ _ _ _)⟩, g3⟩
      | false =>
       go_wp2_with fail
       refine (C2.out _).mono ?_
       rintro e w5 ⟨rfl, hx⟩
       have S5 := Lib.hid (S4.out.below hx)
       clear hx C2
       clear y0 y1 y2 y3 z0 z1 z2 z3 u0 u1 u2 u3 v0 v1 v2 v3 zf uf
       have hlS5 := S5.out.b.lt
       obtain ⟨y0, y1, y2, y3⟩ := box4t S5.out.b.hd
       obtain ⟨z0, z1, z2, z3⟩ := box4t S5.out.b.r1
       obtain ⟨u0, u1, u2, u3⟩ := box4t S5.out.b.r2
       obtain ⟨v0, v1, v2, v3⟩ := box4t S5.out.b.bd
       obtain ⟨zf, uf, _, _⟩ := S5.out.b.fz
       cases i2 with
       | true =>
        have HR := Lib.hid (show ∀ S W x y, SplR (splitH (.mk h0 h1 h2 h4 ah) tb) S W 100 x y from fun S W x y => spl_100 (by rw [HG.out]; simp) S W x y)
        go_wp2_with fail
        obtain ⟨g1, g2, g3, _⟩ := S5.out.b.put HN.out (.int .i64 0) (.int .i64 0) (.string ⟨#[]⟩) (.slice none 0 0) (.int .i64 0) (.int .i64 0) (.string ⟨#[]⟩) (.slice none 0 0) rfl
        obtain ⟨p0, p1, p2, p3⟩ := box4t g1
        obtain ⟨o0, o1, o2, o3⟩ := box4t g2
        refine bodyPost_ret (v := .tuple #[.agg #[.int .i64 0, .int .i64 0, .string ⟨#[]⟩, .slice none 0 0], .agg #[.int .i64 0, .int .i64 0, .string ⟨#[]⟩, .slice none 0 0], .int .i64 100]) (by simp [results, go_sem, p0, p1, p2, p3, o0, o1, o2, o3]) rfl ?_
        exact ⟨⟨_, _, _, _, _, _, _, _, _, _, _, _, _, rfl, Lib.hid (by rw [HEQ.out]; exact HR.out _ _ _ _)⟩, g3⟩
       | false =>
        have CG := Lib.hid (rgoalsx_any S5.out.ob (fun b hb => by have := HN.out b hb; have := S5.out.b.low.size; omega) S5.out.vb)
        obtain ⟨wv, hwv⟩ : ∃ wv, wrongT tb = wv := ⟨_, rfl⟩
        rw [hwv] at CG
        have HWV := Lib.hid hwv
        clear hwv
        have HGF := Lib.hid (show ((nameT (.mk h0 h1 h2 h4 ah)).isNone || ctlT (.mk h0 h1 h2 h4 ah) || isN (.mk h0 h1 h2 h4 ah) [58, 45] 1 || isN (.mk h0 h1 h2 h4 ah) [58, 45] 2) = false by rw [HG.out]; rfl)
        cases wv with
        | true =>
         go_wp2_with fail
         refine CG.out.mono ?_
         rintro e w9 ⟨⟨Ag, mg, cg, rfl⟩, hx⟩
         have S9 := Lib.hid (S5.out.below hx)
         clear hx CG y0 y1 y2 y3 z0 z1 z2 z3 u0 u1 u2 u3 v0 v1 v2 v3 zf uf
         have hlS9 := S9.out.b.lt
         obtain ⟨y0, y1, y2, y3⟩ := box4t S9.out.b.hd
         obtain ⟨z0, z1, z2, z3⟩ := box4t S9.out.b.r1
         obtain ⟨u0, u1, u2, u3⟩ := box4t S9.out.b.r2
         obtain ⟨v0, v1, v2, v3⟩ := box4t S9.out.b.bd
         obtain ⟨zf, uf, _, _⟩ := S9.out.b.fz
         have HR := Lib.hid (show ∀ S W x y, SplR (splitH (.mk h0 h1 h2 h4 ah) tb) S W 101 x y from fun S W x y => spl_101 HGF.out HWV.out S W x y)
         go_wp2_with fail
         obtain ⟨g1, g2, g3, _⟩ := S9.out.b.put HN.out (.int .i64 0) (.int .i64 0) (.string ⟨#[]⟩) (.slice none 0 0) (.int .i64 0) (.int .i64 0) (.string ⟨#[]⟩) (.slice none 0 0) rfl
         obtain ⟨p0, p1, p2, p3⟩ := box4t g1
         obtain ⟨o0, o1, o2, o3⟩ := box4t g2
         refine bodyPost_ret (v := .tuple #[.agg #[.int .i64 0, .int .i64 0, .string ⟨#[]⟩, .slice none 0 0], .agg #[.int .i64 0, .int .i64 0, .string ⟨#[]⟩, .slice none 0 0], .int .i64 101]) (by simp [results, go_sem, p0, p1, p2, p3, o0, o1, o2, o3]) rfl ?_
         exact ⟨⟨_, _, _, _, _, _, _, _, _, _, _, _, _, rfl, Lib.hid (by rw [HEQ.out]; exact HR.out _ _ _ _)⟩, g3⟩
        | false =>
         go_wp2_with fail
         refine CG.out.mono ?_
         rintro e w9 ⟨⟨Ag, mg, cg, rfl⟩, hx⟩
         have S9 := Lib.hid (S5.out.below hx)
         clear hx CG y0 y1 y2 y3 z0 z1 z2 z3 u0 u1 u2 u3 v0 v1 v2 v3 zf uf
         have hlS9 := S9.out.b.lt
         obtain ⟨y0, y1, y2, y3⟩ := box4t S9.out.b.hd
         obtain ⟨z0, z1, z2, z3⟩ := box4t S9.out.b.r1
         obtain ⟨u0, u1, u2, u3⟩ := box4t S9.out.b.r2
         obtain ⟨v0, v1, v2, v3⟩ := box4t S9.out.b.bd
         obtain ⟨zf, uf, _, _⟩ := S9.out.b.fz
         go_wp2_with fail
         have q12 : w.heap.size + 1 ≠ w.heap.size + 2 := by omega
         have q13 : w.heap.size + 1 ≠ w.heap.size + 3 := by omega
         have q14 : w.heap.size + 1 ≠ w.heap.size + 4 := by omega
         go_region
         obtain ⟨WB, hWB⟩ : ∃ WB, (((((((w9.setCell ⟨w.heap.size + 1, 0, none⟩ (.int .i64 h0)).setCell ⟨w.heap.size + 1, 1, none⟩ (.int .i64 h1)).setCell ⟨w.heap.size + 1, 2, none⟩ (.string h2)).setCell ⟨w.heap.size + 1, 3, none⟩ (.slice h3 h4 h5)).setCell ⟨w.heap.size + 1 + 1, 0, none⟩ (.int .i64 b0)).setCell ⟨w.heap.size + 1 + 1, 1, none⟩ (.int .i64 b1)).setCell ⟨w.heap.size + 1 + 1, 2, none⟩ (.string b2)).setCell ⟨w.heap.size + 1 + 1, 3, none⟩ (.slice b3 b4 b5) = WB := ⟨_, rfl⟩
         rw [hWB]
         obtain ⟨g1, g2, g3, g4⟩ := S9.out.b.put HN.out _ _ _ _ _ _ _ _ hWB
         obtain ⟨p0, p1, p2, p3⟩ := box4t (w := WB.drew) g1
         obtain ⟨o0, o1, o2, o3⟩ := box4t (w := WB.drew) g2
         have HB := Lib.hid g3.drew
         have HR := Lib.hid (spl_ok HGF.out HWV.out ((g4 _ _ S9.out.vh).below (Below.refl _ _).drew) ((g4 _ _ S9.out.vb).below (Below.refl _ _).drew) S9.out.oh S9.out.ob)
         clear g1 g2 g3 g4 hWB
         go_wp2_with fail
         refine bodyPost_ret (v := .tuple #[.agg #[.int .i64 h0, .int .i64 h1, .string h2, .slice h3 h4 h5], .agg #[.int .i64 b0, .int .i64 b1, .string b2, .slice b3 b4 b5], .int .i64 0]) (by simp [results, go_sem, p0, p1, p2, p3, o0, o1, o2, o3]) rfl ?_
         exact ⟨⟨_, _, _, _, _, _, _, _, _, _, _, _, _, rfl, Lib.hid (by rw [HEQ.out]; exact HR.out)⟩, HB.out⟩
end Go.Proofs.YtibcpdmeigdgpaaGreatDoor
