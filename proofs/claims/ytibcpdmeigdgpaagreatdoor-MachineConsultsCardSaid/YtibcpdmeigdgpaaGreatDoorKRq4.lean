/- The program's table of operators: Infix and Prefix are the document's. -/
import Derived.Test.YtibcpdmeigdgpaaGreatDoorKGb
import Derived.WalkKit
import Derived.WalkSpells
import Derived.Lib.Hide
import Derived.Lib.Bytes
import Derived.Deep.RegionHeld3
import Derived.Deep.DeepMust
import Derived.Below
namespace Go.Proofs.YtibcpdmeigdgpaaGreatDoor
open Go.RowKit
abbrev OpRow := List UInt8 × List UInt8 × Int
def opRows : List OpRow := [([58, 45], [120, 102, 120], 1200), ([58, 45], [102, 120], 1200), ([59], [120, 102, 121], 1100), ([45, 62], [120, 102, 121], 1050), ([44], [120, 102, 121], 1000), ([92, 43], [102, 121], 900), ([35, 60, 61, 62], [120, 102, 120], 760), ([61], [120, 102, 120], 700), ([92, 61], [120, 102, 120], 700), ([61, 61], [120, 102, 120], 700), ([92, 61, 61], [120, 102, 120], 700), ([64, 60], [120, 102, 120], 700), ([64, 62], [120, 102, 120], 700), ([64, 61, 60], [120, 102, 120], 700), ([64, 62, 61], [120, 102, 120], 700), ([105, 115], [120, 102, 120], 700), ([61, 58, 61], [120, 102, 120], 700), ([61, 92, 61], [120, 102, 120], 700), ([60], [120, 102, 120], 700), ([62], [120, 102, 120], 700), ([61, 60], [120, 102, 120], 700), ([62, 61], [120, 102, 120], 700), ([61, 46, 46], [120, 102, 120], 700), ([35, 61], [120, 102, 120], 700), ([35, 92, 61], [120, 102, 120], 700), ([35, 60], [120, 102, 120], 700), ([35, 62], [120, 102, 120], 700), ([35, 61, 60], [120, 102, 120], 700), ([35, 62, 61], [120, 102, 120], 700), ([105, 110], [120, 102, 120], 700), ([92, 47], [121, 102, 120], 550), ([46, 46], [120, 102, 120], 450), ([43], [121, 102, 120], 500), ([45], [121, 102, 120], 500), ([43], [102, 121], 200), ([45], [102, 121], 200), ([42], [121, 102, 120], 400), ([47, 47], [121, 102, 120], 400), ([114, 101, 109], [121, 102, 120], 400), ([109, 111, 100], [121, 102, 120], 400), ([100, 105, 118], [121, 102, 120], 400), ([94], [120, 102, 121], 200)]
def sideN (c : UInt8) (p : Int) : Int := if c = 120 then p - 1 else p
def findIn (nm : List UInt8) : List OpRow → Option (Int × Int × Int)
 | [] => none
 | (n, k, p) :: l => if n = nm ∧ k.length = 3 then some (p, sideN (k.getD 0 0) p, sideN (k.getD 2 0) p) else findIn nm l
def findPre (nm : List UInt8) : List OpRow → Option (Int × Int)
 | [] => none
 | (n, k, p) :: l => if n = nm ∧ k.length = 2 then some (p, sideN (k.getD 1 0) p) else findPre nm l
theorem rows_len : opRows.length = 42 := rfl
theorem rows_kind : ∀ r ∈ opRows, (r.2.1.length = 3 ∨ r.2.1.length = 2) ∧ 200 ≤ r.2.2 ∧ r.2.2 ≤ 1200 := by decide
theorem find_none {nm : List UInt8} : ∀ (l : List OpRow), (∀ r ∈ l, r.2.1.length = 3 → r.1 ≠ nm) → findIn nm l = none
 | [], _ => rfl
 | (n, k, p) :: l, h => by
  rw [findIn, if_neg (fun hh => h (n, k, p) List.mem_cons_self hh.2 hh.1)]
  exact find_none l fun r hr => h r (List.mem_cons_of_mem _ hr)
theorem pre_none {nm : List UInt8} : ∀ (l : List OpRow), (∀ r ∈ l, r.2.1.length = 2 → r.1 ≠ nm) → findPre nm l = none
 | [], _ => rfl
 | (n, k, p) :: l, h => by
  rw [findPre, if_neg (fun hh => h (n, k, p) List.mem_cons_self hh.2 hh.1)]
  exact pre_none l fun r hr => h r (List.mem_cons_of_mem _ hr)
def inWords : List (List UInt8) := wordsF [] iW0.data.toList ++ wordsF [] iW1.data.toList ++ wordsF [] iW2.data.toList ++ wordsF [] iW3.data.toList ++ wordsF [] iW4.data.toList ++ wordsF [] iW5.data.toList ++ wordsF [] iW6.data.toList ++ wordsF [] iW7.data.toList ++ wordsF [] iW8.data.toList ++ wordsF [] iW9.data.toList ++ wordsF [] iW10.data.toList
def preWords : List (List UInt8) := wordsF [] pW0.data.toList ++ wordsF [] pW1.data.toList ++ wordsF [] pW2.data.toList
theorem inW_false {nm s : ByteArray} (h : nm.data.toList ∉ wordsF [] s.data.toList) : inW nm s = false := by
 unfold inW
 rw [List.any_eq_false]
 intro x hx e
 exact h (by rw [← show x = nm.data.toList by simpa using e]; exact hx)
theorem op_find (nm : ByteArray) : opIn nm = findIn nm.data.toList opRows := by
 by_cases h : nm.data.toList ∈ inWords
 ·have key : ∀ l ∈ inWords, opIn ⟨l.toArray⟩ = findIn l opRows := by decide +kernel
  have := key _ h
  rwa [show (⟨nm.data.toList.toArray⟩ : ByteArray) = nm from rfl] at this
 ·have h1 : ∀ r ∈ opRows, r.2.1.length = 3 → r.1 ∈ inWords := by decide +kernel
  rw [find_none opRows fun r hr hk e => h (by rw [← e]; exact h1 r hr hk)]
  unfold inWords at h
  simp only [List.mem_append, not_or] at h
  obtain ⟨⟨⟨⟨⟨⟨⟨⟨⟨⟨h0, h1⟩, h2⟩, h3⟩, h4⟩, h5⟩, h6⟩, h7⟩, h8⟩, h9⟩, h10⟩ := h
  exact opIn_11 (inW_false h0) (inW_false h1) (inW_false h2) (inW_false h3) (inW_false h4) (inW_false h5) (inW_false h6) (inW_false h7) (inW_false h8) (inW_false h9) (inW_false h10)
theorem pre_find (nm : ByteArray) : opPre nm = findPre nm.data.toList opRows := by
 by_cases h : nm.data.toList ∈ preWords
 ·have key : ∀ l ∈ preWords, opPre ⟨l.toArray⟩ = findPre l opRows := by decide +kernel
  have := key _ h
  rwa [show (⟨nm.data.toList.toArray⟩ : ByteArray) = nm from rfl] at this
 ·have h1 : ∀ r ∈ opRows, r.2.1.length = 2 → r.1 ∈ preWords := by decide +kernel
  rw [pre_none opRows fun r hr hk e => h (by rw [← e]; exact h1 r hr hk)]
  unfold preWords at h
  simp only [List.mem_append, not_or] at h
  obtain ⟨⟨h0, h1⟩, h2⟩ := h
  exact opPre_3 (inW_false h0) (inW_false h1) (inW_false h2)
def TableX (w : World) : Prop := ∀ (i : Nat) (n k : List UInt8) (p : Int), opRows[i]? = some (n, k, p) → w.cell? ⟨1, i * 3, none⟩ = some (.string (ba n)) ∧ w.cell? ⟨1, i * 3 + 1, none⟩ = some (.string (ba k)) ∧ w.cell? ⟨1, i * 3 + 2, none⟩ = some (.int .i64 p)
theorem TableX.lt {w : World} (h : TableX w) : 1 < w.heap.size := World.block_lt_of_cell? w _ (h 0 _ _ _ rfl).1
theorem TableX.low {w w' : World} {B : Nat} (h : TableX w) (hB : 1 < B) (hb : Below B w w') : TableX w' := fun i n k p hr =>
 ⟨(hb.cell (p := ⟨1, i * 3, none⟩) hB).trans (h i n k p hr).1, (hb.cell (p := ⟨1, i * 3 + 1, none⟩) hB).trans (h i n k p hr).2.1, (hb.cell (p := ⟨1, i * 3 + 2, none⟩) hB).trans (h i n k p hr).2.2⟩
theorem TableX.below {w w' : World} (h : TableX w) (hb : Below w.heap.size w w') : TableX w' := h.low h.lt hb
theorem side_any (c : UInt8) (p : Int) (hp : 200 ≤ p ∧ p ≤ 1200) (w : World) : Calls Tryz.prog 89 #[.int .u8 (c.toNat : Int), .int .i64 p] w fun e w' => e = .returned (.int .i64 (sideN c p)) ∧ w' = w := by
 cases hc : ((c.toNat : Int) == 120) with
 | true =>
  have e1 : sideN c p = p - 1 := by
   have : (c.toNat : Int) = 120 := by simpa using hc
   unfold sideN
   rw [if_pos (UInt8.toNat_inj.1 (by show c.toNat = 120; omega))]
  rw [e1]
  go_enter Tryz.func89, Tryz.ntmps89
  go_wp2_with fail
  go_ret
  exact ⟨rfl, rfl⟩
 | false =>
  have e1 : sideN c p = p := by
   unfold sideN
   rw [if_neg]
   rintro rfl
   exact absurd hc (by decide)
  rw [e1]
  go_enter Tryz.func89, Tryz.ntmps89
  go_wp2_with fail
  go_ret
  exact ⟨rfl, rfl⟩
theorem getB {k : List UInt8} {b : ByteArray} (h : ba k = b) (i : Nat) (hi : i < b.size) : b[i] = k.getD i 0 := by
 subst h
 have hl : i < k.length := by
  have : (ba k).size = k.length := (show (ba k).data.toList.length = k.length by simp [ba])
  omega
 rw [List.getD_eq_getElem?_getD, List.getElem?_eq_getElem hl]
 rfl
theorem find_go {nm : List UInt8} {i : Nat} {n k : List UInt8} {p : Int} (h : opRows[i]? = some (n, k, p)) (hm : ¬ (n = nm ∧ k.length = 3)) : findIn nm (opRows.drop i) = findIn nm (opRows.drop (i + 1)) := by
 obtain ⟨hi, he⟩ := List.getElem?_eq_some_iff.1 h
 rw [List.drop_eq_getElem_cons hi, he, findIn, if_neg hm]
theorem find_here {nm : List UInt8} {i : Nat} {n k : List UInt8} {p : Int} (h : opRows[i]? = some (n, k, p)) (hm : n = nm ∧ k.length = 3) : findIn nm (opRows.drop i) = some (p, sideN (k.getD 0 0) p, sideN (k.getD 2 0) p) := by
 obtain ⟨hi, he⟩ := List.getElem?_eq_some_iff.1 h
 rw [List.drop_eq_getElem_cons hi, he, findIn, if_pos hm]
set_option maxRecDepth 100000 in
set_option maxHeartbeats 4000000 in
theorem pinfix_any (nm : ByteArray) (w : World) (hT : TableX w) : Calls Tryz.prog 64 #[.string nm] w fun e w' =>
 (∃ a b c is, e = .returned (.tuple #[.int .i64 a, .int .i64 b, .int .i64 c, .bool is]) ∧ Hid ((is = true ∧ opIn nm = some (a, b, c)) ∨ (is = false ∧ opIn nm = none ∧ a = 0 ∧ b = 0 ∧ c = 0))) ∧ Below w.heap.size w w' := by
 have HT := Lib.hid hT
 have HOP := Lib.hid (op_find nm)
 have hg := hT.lt
 clear hT
 go_enter Tryz.func64, Tryz.ntmps64
 go_wp2_with fail
 go_loopw [2, 3, 4, 5, 6, 7, 8, 9] (fun s2 s3 s4 s5 s6 s7 s8 s9 wr => ∃ i : Nat, s9 = .int .i64 (i : Int) ∧ i ≤ 42 ∧ Hid (opIn nm = findIn nm.data.toList (opRows.drop i)) ∧ Below w.heap.size w wr) (fun _ _ _ _ _ _ _ s9 _ => 42 - (intOf s9).toNat)
 case atStart => exact ⟨0, rfl, by omega, Lib.hid HOP.out, Below.refl _ _⟩
 case round =>
  obtain ⟨i, rfl, hi, HF, hb⟩ := hrel
  have HB := Lib.hid hb
  clear hb
  by_cases hil : i < 42
  ·have hil' : (i : Int) < 42 := by omega
   obtain ⟨⟨n, k, p⟩, hr⟩ : ∃ r, opRows[i]? = some r := ⟨_, List.getElem?_eq_getElem (by rw [rows_len]; exact hil)⟩
   obtain ⟨hk, hp0, hp1⟩ := rows_kind _ (List.mem_of_getElem? hr)
   dsimp only at hk hp0 hp1
   have HR := Lib.hid hr
   obtain ⟨t0, t1, t2⟩ := (HT.out.low hg HB.out) i n k p hr
   have KT := Lib.hid (fun (W : World) (h : Below wr.heap.size wr W) => (HT.out.low hg (HB.out.trans (h.mono HB.out.size))) i n k p hr)
   obtain ⟨bk, hbk⟩ : ∃ bk, ba k = bk := ⟨_, rfl⟩
   obtain ⟨bnn, hbn⟩ : ∃ bnn, ba n = bnn := ⟨_, rfl⟩
   rw [hbk] at t1 KT
   rw [hbn] at t0 KT
   have HBK := Lib.hid hbk
   have HBN := Lib.hid hbn
   have KN := Lib.hid (show bnn.toList = n by rw [← hbn, ByteArray.toList_eq]; simp [ba])
   clear hr hbk hbn
   cases hn : (bnn.toList == nm.toList) with
   | false =>
    clear hk
    have HF2 := Lib.hid (HF.out.trans (find_go HR.out fun h => by
     rw [KN.out, h.1, ByteArray.toList_eq] at hn
     simp at hn))
    go_wp2_with fail
    go_region
    go_wp2_with fail
    go_roundw
    case rel => exact ⟨i + 1, by go_num, by omega, HF2, HB.out.drew⟩
    case measure => simp [intOf]; omega
   | true =>
    have HNM := Lib.hid (show n = nm.data.toList by
     have h : bnn.toList = nm.toList := by simpa using hn
     rw [KN.out, ByteArray.toList_eq] at h
     exact h)
    rcases hk with hk3 | hk2
    ·have hsz : bk.size = 3 := by rw [← HBK.out]; exact (show (ba k).data.toList.length = 3 from by simpa [ba] using hk3)
     have HK3 := Lib.hid hk3
     have HF2 := Lib.hid (HF.out.trans (find_here HR.out ⟨HNM.out, hk3⟩))
     have HB0 := Lib.hid (show k.getD 0 0 = bk[0]'(by omega) by rw [← getB HBK.out 0 (by omega)])
     have HB2 := Lib.hid (show k.getD 2 0 = bk[2]'(by omega) by rw [← getB HBK.out 2 (by omega)])
     clear hk3
     go_wp2_with fail
     go_region
     go_wp2_with fail
     go_region_held3 (fun W => True) (trivial)
      ((first
        | ((with_reducible refine (side_any (bk[0]'(by omega)) p ⟨by omega, by omega⟩ _).mono ?_); rintro e w6 ⟨rfl, rfl⟩)
        | ((with_reducible refine (side_any (bk[2]'(by omega)) p ⟨by omega, by omega⟩ _).mono ?_); rintro e w6 ⟨rfl, rfl⟩)))
     all_goals
      go_wp2_with fail
      refine bodyPost_ret (v := .tuple #[.int .i64 p, .int .i64 (sideN (bk[0]'(by omega)) p), .int .i64 (sideN (bk[2]'(by omega)) p), .bool true]) (by simp [results, go_sem]) rfl ?_
      exact ⟨⟨_, _, _, true, rfl, Lib.hid (.inl ⟨rfl, by rw [HF2.out, HB0.out, HB2.out]⟩)⟩, HB.out.drew.drew⟩
    ·have hsz : bk.size = 2 := by rw [← HBK.out]; exact (show (ba k).data.toList.length = 2 from by simpa [ba] using hk2)
     have HK2 := Lib.hid hk2
     have HF2 := Lib.hid (HF.out.trans (find_go HR.out fun h => by have := HK2.out; omega))
     clear hk2
     go_wp2_with fail
     go_region
     go_wp2_with fail
     go_roundw
     case rel => exact ⟨i + 1, by go_num, by omega, HF2, HB.out.drew⟩
     case measure => simp [intOf]; omega
  ·obtain rfl : i = 42 := by omega
   have HF2 := Lib.hid (show opIn nm = none from HF.out)
   go_wp2_with fail
   refine bodyPost_ret (v := .tuple #[.int .i64 0, .int .i64 0, .int .i64 0, .bool false]) (by simp [results, go_sem]) rfl ?_
   exact ⟨⟨0, 0, 0, false, rfl, Lib.hid (.inr ⟨rfl, HF2.out, rfl, rfl, rfl⟩)⟩, HB.out⟩
theorem pre_go {nm : List UInt8} {i : Nat} {n k : List UInt8} {p : Int} (h : opRows[i]? = some (n, k, p)) (hm : ¬ (n = nm ∧ k.length = 2)) : findPre nm (opRows.drop i) = findPre nm (opRows.drop (i + 1)) := by
 obtain ⟨hi, he⟩ := List.getElem?_eq_some_iff.1 h
 rw [List.drop_eq_getElem_cons hi, he, findPre, if_neg hm]
theorem pre_here {nm : List UInt8} {i : Nat} {n k : List UInt8} {p : Int} (h : opRows[i]? = some (n, k, p)) (hm : n = nm ∧ k.length = 2) : findPre nm (opRows.drop i) = some (p, sideN (k.getD 1 0) p) := by
 obtain ⟨hi, he⟩ := List.getElem?_eq_some_iff.1 h
 rw [List.drop_eq_getElem_cons hi, he, findPre, if_pos hm]
set_option maxRecDepth 100000 in
set_option maxHeartbeats 4000000 in
theorem pprefix_any (nm : ByteArray) (w : World) (hT : TableX w) : Calls Tryz.prog 105 #[.string nm] w fun e w' =>
 (∃ a b is, e = .returned (.tuple #[.int .i64 a, .int .i64 b, .bool is]) ∧ Hid ((is = true ∧ opPre nm = some (a, b)) ∨ (is = false ∧ opPre nm = none ∧ a = 0 ∧ b = 0))) ∧ Below w.heap.size w w' := by
 have HT := Lib.hid hT
 have HOP := Lib.hid (pre_find nm)
 have hg := hT.lt
 clear hT
 go_enter Tryz.func105, Tryz.ntmps105
 go_wp2_with fail
 go_loopw [2, 3, 4, 5, 6, 7, 8] (fun s2 s3 s4 s5 s6 s7 s8 wr => ∃ i : Nat, s8 = .int .i64 (i : Int) ∧ i ≤ 42 ∧ Hid (opPre nm = findPre nm.data.toList (opRows.drop i)) ∧ Below w.heap.size w wr) (fun _ _ _ _ _ _ s8 _ => 42 - (intOf s8).toNat)
 case atStart => exact ⟨0, rfl, by omega, Lib.hid HOP.out, Below.refl _ _⟩
 case round =>
  obtain ⟨i, rfl, hi, HF, hb⟩ := hrel
  have HB := Lib.hid hb
  clear hb
  by_cases hil : i < 42
  ·have hil' : (i : Int) < 42 := by omega
   obtain ⟨⟨n, k, p⟩, hr⟩ : ∃ r, opRows[i]? = some r := ⟨_, List.getElem?_eq_getElem (by rw [rows_len]; exact hil)⟩
   obtain ⟨hk, hp0, hp1⟩ := rows_kind _ (List.mem_of_getElem? hr)
   dsimp only at hk hp0 hp1
   have HR := Lib.hid hr
   obtain ⟨t0, t1, t2⟩ := (HT.out.low hg HB.out) i n k p hr
   have KT := Lib.hid (fun (W : World) (h : Below wr.heap.size wr W) => (HT.out.low hg (HB.out.trans (h.mono HB.out.size))) i n k p hr)
   obtain ⟨bk, hbk⟩ : ∃ bk, ba k = bk := ⟨_, rfl⟩
   obtain ⟨bnn, hbn⟩ : ∃ bnn, ba n = bnn := ⟨_, rfl⟩
   rw [hbk] at t1 KT
   rw [hbn] at t0 KT
   have HBK := Lib.hid hbk
   have HBN := Lib.hid hbn
   have KN := Lib.hid (show bnn.toList = n by rw [← hbn, ByteArray.toList_eq]; simp [ba])
   clear hr hbk hbn
   cases hn : (bnn.toList == nm.toList) with
   | false =>
    clear hk
    have HF2 := Lib.hid (HF.out.trans (pre_go HR.out fun h => by
     rw [KN.out, h.1, ByteArray.toList_eq] at hn
     simp at hn))
    go_wp2_with fail
    go_region
    go_wp2_with fail
    go_roundw
    case rel => exact ⟨i + 1, by go_num, by omega, HF2, HB.out.drew⟩
    case measure => simp [intOf]; omega
   | true =>
    have HNM := Lib.hid (show n = nm.data.toList by
     have h : bnn.toList = nm.toList := by simpa using hn
     rw [KN.out, ByteArray.toList_eq] at h
     exact h)
    rcases hk with hk3 | hk2
    ·have hsz : bk.size = 3 := by rw [← HBK.out]; exact (show (ba k).data.toList.length = 3 from by simpa [ba] using hk3)
     have HK3 := Lib.hid hk3
     have HF2 := Lib.hid (HF.out.trans (pre_go HR.out fun h => by have := HK3.out; omega))
     clear hk3
     go_wp2_with fail
     go_region
     go_wp2_with fail
     go_roundw
     case rel => exact ⟨i + 1, by go_num, by omega, HF2, HB.out.drew⟩
     case measure => simp [intOf]; omega
    ·have hsz : bk.size = 2 := by rw [← HBK.out]; exact (show (ba k).data.toList.length = 2 from by simpa [ba] using hk2)
     have HF2 := Lib.hid (HF.out.trans (pre_here HR.out ⟨HNM.out, hk2⟩))
     have HB1 := Lib.hid (show k.getD 1 0 = bk[1]'(by omega) by rw [← getB HBK.out 1 (by omega)])
     clear hk2
     go_wp2_with fail
     go_region
     go_wp2_with fail
     refine (side_any (bk[1]'(by omega)) p ⟨by omega, by omega⟩ _).mono ?_
     rintro e w6 ⟨rfl, rfl⟩
     go_wp2_with fail
     refine bodyPost_ret (v := .tuple #[.int .i64 p, .int .i64 (sideN (bk[1]'(by omega)) p), .bool true]) (by simp [results, go_sem]) rfl ?_
     exact ⟨⟨_, _, true, rfl, Lib.hid (.inl ⟨rfl, by rw [HF2.out, HB1.out]⟩)⟩, HB.out.drew⟩
  ·obtain rfl : i = 42 := by omega
   have HF2 := Lib.hid (show opPre nm = none from HF.out)
   go_wp2_with fail
   refine bodyPost_ret (v := .tuple #[.int .i64 0, .int .i64 0, .bool false]) (by simp [results, go_sem]) rfl ?_
   exact ⟨⟨0, 0, false, rfl, Lib.hid (.inr ⟨rfl, HF2.out, rfl, rfl⟩)⟩, HB.out⟩
end Go.Proofs.YtibcpdmeigdgpaaGreatDoor
