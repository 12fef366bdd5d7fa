/- The program's parser: integer, variable. -/
import Derived.Test.YtlogcealmiokkaaGreatDoorKRq5
import Derived.Test.YtlogcealmiokkaaGreatDoorKGn
namespace Go.Proofs.YtlogcealmiokkaaGreatDoor
open Go.RowKit
theorem belP {w w1 : World} (h : Below w.heap.size w w1) (o : Obj) : Below w.heap.size w (w1.alloc o) := h.alloc h.size o
theorem int_what {x : Tk} {bl : Bool} {s s' : ByteArray} {n er2 : Int} {i : Nat} {ns : List ByteArray} (hne : x.t.data.toList ≠ []) (hz : s.data.toList = trimF x.t.data.toList)
 (hs : s' = if s.data.toList = [] then ⟨#[48]⟩ else if bl = true then ⟨#[45]⟩ ++ s else s) (hp : (er2 = 0 ∧ parseN s' = some n) ∨ (er2 = 12 ∧ n = 0 ∧ parseN s' = none)) :
 intP x bl i ns = if er2 = 0 then .ok (inT n, i, ns) else .error ((x.a : Int), 51) := by
 refine int_sp (s := ba (zerosL x.t.data.toList)) (s' := s') (by simp [ba]) ?_ hp
 rw [hs, hz, show (ba (zerosL x.t.data.toList)).data.toList = zerosL x.t.data.toList by simp [ba], trim_zeros hne]
 by_cases h0 : trimF x.t.data.toList = []
 ·rw [if_pos h0, if_pos h0, if_neg (by simp)]
  rfl
 ·rw [if_neg h0, if_neg h0]
  have h48 := trim_first x.t.data.toList
  have e : ba (trimF x.t.data.toList) = s := by
   rw [← hz]
   exact ba_eq s
  cases bl with
  | true => rw [if_pos rfl, if_pos ⟨rfl, h48⟩, e]
  | false => rw [if_neg (by simp), if_neg (by simp), e]
set_option maxRecDepth 100000 in
set_option maxHeartbeats 4000000 in
theorem pinteger_any {c : Rdc} {i : Nat} {ns : List ByteArray} (x : Tk) (bl : Bool) (w : World) (h : Pd w c i ns) (hev : Ev c w) (hi : 0 < i) (ht : x.t.size ≤ 4096) (hne : x.t.data.toList ≠ []) :
 Calls Tryz.prog 72 #[.pointer (some ⟨c.R, 0, none⟩), .agg #[.int .i64 x.k, .string x.t, .int .i64 (x.a : Int), .int .i64 (x.b : Int)], .string (if bl = true then ⟨#[45]⟩ else ⟨#[]⟩)] w fun e w' =>
  PQ c w i (intP x bl i ns) (fun t _ v _ => ∃ n, t = inT n ∧ I64 n ∧ v = .agg #[.int .i64 2, .int .i64 n, .string ⟨#[]⟩, .slice none 0 0]) e w' := by
 have H := Lib.hid h
 have HE := Lib.hid hev
 have HNE := Lib.hid hne
 have HI := Lib.hid (fun s s' n er2 => int_what (x := x) (bl := bl) (s := s) (s' := s') (n := n) (er2 := er2) (i := i) (ns := ns) hne)
 clear h hev hne
 obtain ⟨k, tx, a, b⟩ := x
 have B2 := Lib.hid (belP (belP (Below.refl w.heap.size w) (Obj.cells #[.int .i64 k, .string tx, .int .i64 (a : Int), .int .i64 (b : Int)] 60)) (Obj.cells #[.int .i64 0, .int .i64 0, .string ⟨#[]⟩, .slice none 0 0] 31))
 have t0 := Lib.hid ((Below.heap_alloc (w.alloc (Obj.cells #[.int .i64 k, .string tx, .int .i64 (a : Int), .int .i64 (b : Int)] 60)) (Obj.cells #[.int .i64 0, .int .i64 0, .string ⟨#[]⟩, .slice none 0 0] 31) w.heap.size (by simp)).trans (heap_alloc_new w _))
 have F2 := Lib.hid (Frp.of_below B2.out H.out.base)
 have CT := Lib.hid (trim_any tx)
 have CP := Lib.hid (fun (s : ByteArray) (W : World) (hs : s.size ≤ 281474976710656) (hf : Frp c w W) => pparse_any s W hs (HE.out.fr hf).tab (HE.out.fr hf).err)
 have x0 := Lib.hid (show ((w.alloc (Obj.cells #[.int .i64 k, .string tx, .int .i64 (a : Int), .int .i64 (b : Int)] 60)).alloc (Obj.cells #[.int .i64 0, .int .i64 0, .string ⟨#[]⟩, .slice none 0 0] 31)).heap[w.heap.size + 1]? = some (Obj.cells #[.int .i64 0, .int .i64 0, .string ⟨#[]⟩, .slice none 0 0] 31) from heap_at _ _ (by simp))
 have HTA := Lib.hid (show ∀ g, c.TA = some ⟨g, 0, none⟩ → w.heap.size + 1 ≠ g from fun g hg => by
  have := H.out.tok_lt (by have := H.out.up; omega) hg; omega)
 obtain ⟨sg, hsg⟩ : ∃ sg, (if bl = true then ⟨#[45]⟩ else ⟨#[]⟩ : ByteArray) = sg := ⟨_, rfl⟩
 rw [hsg]
 cases bl with
 | true =>
  obtain rfl : sg = ⟨#[45]⟩ := by rw [← hsg]; rfl
  clear hsg
  go_enter Tryz.func72, Tryz.ntmps72
  go_wp2_with fail
  refine (CT.out _).mono ?_
  rintro e w1 ⟨⟨s, rfl, HZ, hsz⟩, rfl⟩
  cases h0 : (s.toList == []) with
  | true =>
   have HS0 := Lib.hid (show s.data.toList = [] by rw [← ByteArray.toList_eq]; simpa using h0)
   have hsz2 : ((⟨#[]⟩ ++ ⟨#[48]⟩) : ByteArray).size ≤ 281474976710656 := by
    rw [ByteArray.size_append]
    have z1 : (⟨#[]⟩ : ByteArray).size = 0 := rfl
    have z2 : (⟨#[48]⟩ : ByteArray).size = 1 := rfl
    have z3 : (⟨#[45]⟩ : ByteArray).size = 1 := rfl
    omega
   have CPX := Lib.hid (CP.out (⟨#[]⟩ ++ ⟨#[48]⟩) _ hsz2 F2.out)
   clear hsz2
   go_wp2_with fail
   with_reducible refine CPX.out.mono ?_
   clear CPX
   rintro e w1 ⟨⟨n, er2, rfl, hn, hp⟩, hb1⟩
   have HW := Lib.hid (HI.out s (⟨#[]⟩ ++ ⟨#[48]⟩) n er2 HZ.out (by rw [if_pos HS0.out]; rfl) hp.out)
   have F3 := Lib.hid (F2.out.trans (Frp.of_below hb1 (Nat.le_trans H.out.base B2.out.size)))
   have P3 := Lib.hid (((H.out.alloc _).alloc _).below hb1)
   have T3 := Lib.hid ((hb1.block _ (heap_lt t0.out)).trans t0.out)
   have X3 := Lib.hid ((hb1.block _ (heap_lt x0.out)).trans x0.out)
   have HN := Lib.hid hn
   clear hn hp hb1
   obtain ⟨c0, c1, c2, c3⟩ := box4t T3.out
   obtain ⟨d0, d1, d2, d3⟩ := box4t X3.out
   have hlt0 := heap_lt T3.out
   have hlt1 := heap_lt X3.out
   have df : ∀ j, w1.frozen? ⟨w.heap.size + 1, j, none⟩ = false := fun j => by simp [World.frozen?, X3.out]
   by_cases he2 : er2 = 0
   ·have HP0 := Lib.hid (HW.out.trans (if_pos he2))
    subst he2
    clear HW
    have PB := box4t (box_put4 X3.out (.int .i64 2) (.int .i64 n) (.string ⟨#[]⟩) (.slice none 0 0) rfl).1
    have G3 := Lib.hid (F3.out.newput4 (b := w.heap.size + 1) (by omega) (by have := H.out.base; omega) (.int .i64 2) (.int .i64 n) (.string ⟨#[]⟩) (.slice none 0 0))
    have Q3 := Lib.hid (P3.out.put4 X3.out (.int .i64 2) (.int .i64 n) (.string ⟨#[]⟩) (.slice none 0 0) (by decide) (by have := H.out.lt; omega) HTA.out)
    go_wp2_with fail
    refine bodyPost_ret (v := .agg #[.int .i64 2, .int .i64 n, .string ⟨#[]⟩, .slice none 0 0]) (by simp [results, go_sem, PB]) rfl ?_
    rw [HP0.out]
    exact ⟨G3.out, _, rfl, Q3.out, Nat.le_refl _, n, rfl, HN.out, rfl⟩
   ·have he2' : (er2 != 0) = true := by simpa using he2
    have HP0 := Lib.hid (HW.out.trans (if_neg he2))
    clear HW he2
    go_wp2_with fail
    refine ⟨rfl, ?_⟩
    rw [HP0.out]
    exact ⟨F3.out, rfl⟩
  | false =>
   have HS0 := Lib.hid (show ¬ s.data.toList = [] by
    rw [← ByteArray.toList_eq]
    intro e
    rw [e] at h0
    exact absurd h0 (by decide))
   have hsz2 : ((⟨#[45]⟩ ++ s) : ByteArray).size ≤ 281474976710656 := by
    rw [ByteArray.size_append]
    have z1 : (⟨#[]⟩ : ByteArray).size = 0 := rfl
    have z2 : (⟨#[48]⟩ : ByteArray).size = 1 := rfl
    have z3 : (⟨#[45]⟩ : ByteArray).size = 1 := rfl
    omega
   have CPX := Lib.hid (CP.out (⟨#[45]⟩ ++ s) _ hsz2 F2.out)
   clear hsz2
   go_wp2_with fail
   with_reducible refine CPX.out.mono ?_
   clear CPX
   rintro e w1 ⟨⟨n, er2, rfl, hn, hp⟩, hb1⟩
   have HW := Lib.hid (HI.out s (⟨#[45]⟩ ++ s) n er2 HZ.out (by rw [if_neg HS0.out]; simp) hp.out)
   have F3 := Lib.hid (F2.out.trans (Frp.of_below hb1 (Nat.le_trans H.out.base B2.out.size)))
   have P3 := Lib.hid (((H.out.alloc _).alloc _).below hb1)
   have T3 := Lib.hid ((hb1.block _ (heap_lt t0.out)).trans t0.out)
   have X3 := Lib.hid ((hb1.block _ (heap_lt x0.out)).trans x0.out)
   have HN := Lib.hid hn
   clear hn hp hb1
   obtain ⟨c0, c1, c2, c3⟩ := box4t T3.out
   obtain ⟨d0, d1, d2, d3⟩ := box4t X3.out
   have hlt0 := heap_lt T3.out
   have hlt1 := heap_lt X3.out
   have df : ∀ j, w1.frozen? ⟨w.heap.size + 1, j, none⟩ = false := fun j => by simp [World.frozen?, X3.out]
   by_cases he2 : er2 = 0
   ·have HP0 := Lib.hid (HW.out.trans (if_pos he2))
    subst he2
    clear HW
    have PB := box4t (box_put4 X3.out (.int .i64 2) (.int .i64 n) (.string ⟨#[]⟩) (.slice none 0 0) rfl).1
    have G3 := Lib.hid (F3.out.newput4 (b := w.heap.size + 1) (by omega) (by have := H.out.base; omega) (.int .i64 2) (.int .i64 n) (.string ⟨#[]⟩) (.slice none 0 0))
    have Q3 := Lib.hid (P3.out.put4 X3.out (.int .i64 2) (.int .i64 n) (.string ⟨#[]⟩) (.slice none 0 0) (by decide) (by have := H.out.lt; omega) HTA.out)
    go_wp2_with fail
    refine bodyPost_ret (v := .agg #[.int .i64 2, .int .i64 n, .string ⟨#[]⟩, .slice none 0 0]) (by simp [results, go_sem, PB]) rfl ?_
    rw [HP0.out]
    exact ⟨G3.out, _, rfl, Q3.out, Nat.le_refl _, n, rfl, HN.out, rfl⟩
   ·have he2' : (er2 != 0) = true := by simpa using he2
    have HP0 := Lib.hid (HW.out.trans (if_neg he2))
    clear HW he2
    go_wp2_with fail
    refine ⟨rfl, ?_⟩
    rw [HP0.out]
    exact ⟨F3.out, rfl⟩
 | false =>
  obtain rfl : sg = ⟨#[]⟩ := by rw [← hsg]; rfl
  clear hsg
  go_enter Tryz.func72, Tryz.ntmps72
  go_wp2_with fail
  refine (CT.out _).mono ?_
  rintro e w1 ⟨⟨s, rfl, HZ, hsz⟩, rfl⟩
  cases h0 : (s.toList == []) with
  | true =>
   have HS0 := Lib.hid (show s.data.toList = [] by rw [← ByteArray.toList_eq]; simpa using h0)
   have hsz2 : ((⟨#[]⟩ ++ ⟨#[48]⟩) : ByteArray).size ≤ 281474976710656 := by
    rw [ByteArray.size_append]
    have z1 : (⟨#[]⟩ : ByteArray).size = 0 := rfl
    have z2 : (⟨#[48]⟩ : ByteArray).size = 1 := rfl
    have z3 : (⟨#[45]⟩ : ByteArray).size = 1 := rfl
    omega
   have CPX := Lib.hid (CP.out (⟨#[]⟩ ++ ⟨#[48]⟩) _ hsz2 F2.out)
   clear hsz2
   go_wp2_with fail
   with_reducible refine CPX.out.mono ?_
   clear CPX
   rintro e w1 ⟨⟨n, er2, rfl, hn, hp⟩, hb1⟩
   have HW := Lib.hid (HI.out s (⟨#[]⟩ ++ ⟨#[48]⟩) n er2 HZ.out (by rw [if_pos HS0.out]; rfl) hp.out)
   have F3 := Lib.hid (F2.out.trans (Frp.of_below hb1 (Nat.le_trans H.out.base B2.out.size)))
   have P3 := Lib.hid (((H.out.alloc _).alloc _).below hb1)
   have T3 := Lib.hid ((hb1.block _ (heap_lt t0.out)).trans t0.out)
   have X3 := Lib.hid ((hb1.block _ (heap_lt x0.out)).trans x0.out)
   have HN := Lib.hid hn
   clear hn hp hb1
   obtain ⟨c0, c1, c2, c3⟩ := box4t T3.out
   obtain ⟨d0, d1, d2, d3⟩ := box4t X3.out
   have hlt0 := heap_lt T3.out
   have hlt1 := heap_lt X3.out
   have df : ∀ j, w1.frozen? ⟨w.heap.size + 1, j, none⟩ = false := fun j => by simp [World.frozen?, X3.out]
   by_cases he2 : er2 = 0
   ·have HP0 := Lib.hid (HW.out.trans (if_pos he2))
    subst he2
    clear HW
    have PB := box4t (box_put4 X3.out (.int .i64 2) (.int .i64 n) (.string ⟨#[]⟩) (.slice none 0 0) rfl).1
    have G3 := Lib.hid (F3.out.newput4 (b := w.heap.size + 1) (by omega) (by have := H.out.base; omega) (.int .i64 2) (.int .i64 n) (.string ⟨#[]⟩) (.slice none 0 0))
    have Q3 := Lib.hid (P3.out.put4 X3.out (.int .i64 2) (.int .i64 n) (.string ⟨#[]⟩) (.slice none 0 0) (by decide) (by have := H.out.lt; omega) HTA.out)
    go_wp2_with fail
    refine bodyPost_ret (v := .agg #[.int .i64 2, .int .i64 n, .string ⟨#[]⟩, .slice none 0 0]) (by simp [results, go_sem, PB]) rfl ?_
    rw [HP0.out]
    exact ⟨G3.out, _, rfl, Q3.out, Nat.le_refl _, n, rfl, HN.out, rfl⟩
   ·have he2' : (er2 != 0) = true := by simpa using he2
    have HP0 := Lib.hid (HW.out.trans (if_neg he2))
    clear HW he2
    go_wp2_with fail
    refine ⟨rfl, ?_⟩
    rw [HP0.out]
    exact ⟨F3.out, rfl⟩
  | false =>
   have HS0 := Lib.hid (show ¬ s.data.toList = [] by
    rw [← ByteArray.toList_eq]
    intro e
    rw [e] at h0
    exact absurd h0 (by decide))
   have hsz2 : ((⟨#[]⟩ ++ s) : ByteArray).size ≤ 281474976710656 := by
    rw [ByteArray.size_append]
    have z1 : (⟨#[]⟩ : ByteArray).size = 0 := rfl
    have z2 : (⟨#[48]⟩ : ByteArray).size = 1 := rfl
    have z3 : (⟨#[45]⟩ : ByteArray).size = 1 := rfl
    omega
   have CPX := Lib.hid (CP.out (⟨#[]⟩ ++ s) _ hsz2 F2.out)
   clear hsz2
   go_wp2_with fail
   with_reducible refine CPX.out.mono ?_
   clear CPX
   rintro e w1 ⟨⟨n, er2, rfl, hn, hp⟩, hb1⟩
   have HW := Lib.hid (HI.out s (⟨#[]⟩ ++ s) n er2 HZ.out (by rw [if_neg HS0.out, if_neg (by simp)]; apply ByteArray.ext; simp) hp.out)
   have F3 := Lib.hid (F2.out.trans (Frp.of_below hb1 (Nat.le_trans H.out.base B2.out.size)))
   have P3 := Lib.hid (((H.out.alloc _).alloc _).below hb1)
   have T3 := Lib.hid ((hb1.block _ (heap_lt t0.out)).trans t0.out)
   have X3 := Lib.hid ((hb1.block _ (heap_lt x0.out)).trans x0.out)
   have HN := Lib.hid hn
   clear hn hp hb1
   obtain ⟨c0, c1, c2, c3⟩ := box4t T3.out
   obtain ⟨d0, d1, d2, d3⟩ := box4t X3.out
   have hlt0 := heap_lt T3.out
   have hlt1 := heap_lt X3.out
   have df : ∀ j, w1.frozen? ⟨w.heap.size + 1, j, none⟩ = false := fun j => by simp [World.frozen?, X3.out]
   by_cases he2 : er2 = 0
   ·have HP0 := Lib.hid (HW.out.trans (if_pos he2))
    subst he2
    clear HW
    have PB := box4t (box_put4 X3.out (.int .i64 2) (.int .i64 n) (.string ⟨#[]⟩) (.slice none 0 0) rfl).1
    have G3 := Lib.hid (F3.out.newput4 (b := w.heap.size + 1) (by omega) (by have := H.out.base; omega) (.int .i64 2) (.int .i64 n) (.string ⟨#[]⟩) (.slice none 0 0))
    have Q3 := Lib.hid (P3.out.put4 X3.out (.int .i64 2) (.int .i64 n) (.string ⟨#[]⟩) (.slice none 0 0) (by decide) (by have := H.out.lt; omega) HTA.out)
    go_wp2_with fail
    refine bodyPost_ret (v := .agg #[.int .i64 2, .int .i64 n, .string ⟨#[]⟩, .slice none 0 0]) (by simp [results, go_sem, PB]) rfl ?_
    rw [HP0.out]
    exact ⟨G3.out, _, rfl, Q3.out, Nat.le_refl _, n, rfl, HN.out, rfl⟩
   ·have he2' : (er2 != 0) = true := by simpa using he2
    have HP0 := Lib.hid (HW.out.trans (if_neg he2))
    clear HW he2
    go_wp2_with fail
    refine ⟨rfl, ?_⟩
    rw [HP0.out]
    exact ⟨F3.out, rfl⟩
end Go.Proofs.YtlogcealmiokkaaGreatDoor
