/- The walk through coneyref13.Eval, for any term. -/
import Derived.Test.YtifjdfdjojkagaaEvalR0
import Derived.Test.YtifjdfdjojkagaaDig
namespace Go.Proofs.Ytifjdfdjojkagaa
open Go.RowKit Dg

/-- An atom has no arguments. -/
def T.atoms : T → Prop
  | .nil => True
  | .mk k _ _ m a => (k = 3 → m = 0) ∧ ∀ i, i < m → (a i).atoms

def RefR (t : T) (r : Ev) : Prop := ∀ (v : Value) (w : World), TIn w w.heap.size t v → Calls Try.prog 11 #[v] w fun e w' => e = evPair r ∧ Below w.heap.size w w'

set_option maxRecDepth 100000 in
set_option maxHeartbeats 2000000 in
theorem ref_int (n : Int) (s : ByteArray) (A : Option Addr) (m c : Nat) (w : World) :
    Calls Try.prog 11 #[.agg #[.int .i64 2, .int .i64 n, .string s, .slice A m c]] w fun e w' => e = evPair (.val n) ∧ Below w.heap.size w w' := by
  go_enter Try.func11, Try.ntmps11
  go_wp2_with fail
  refine bodyPost_ret (v := (.tuple #[.int .i64 n, .agg #[.int .i64 0, .string ⟨#[]⟩, .int .i64 0]])) (by simp [results, go_sem]) rfl ?_
  exact ⟨rfl, ((Below.refl _ _).alloc (Nat.le_refl _) _).alloc (by simp) _⟩
set_option maxRecDepth 100000 in
set_option maxHeartbeats 2000000 in
theorem ref_var (n : Int) (s : ByteArray) (A : Option Addr) (m c : Nat) (w : World) :
    Calls Try.prog 11 #[.agg #[.int .i64 1, .int .i64 n, .string s, .slice A m c]] w fun e w' => e = evPair (.flt 1 noName 0) ∧ Below w.heap.size w w' := by
  go_enter Try.func11, Try.ntmps11
  go_wp2_with fail
  refine bodyPost_ret (v := (.tuple #[.int .i64 0, .agg #[.int .i64 1, .string ⟨#[]⟩, .int .i64 0]])) (by simp [results, go_sem]) rfl ?_
  exact ⟨rfl, ((Below.refl _ _).alloc (Nat.le_refl _) _).alloc (by simp) _⟩
set_option maxRecDepth 100000 in
set_option maxHeartbeats 2000000 in
theorem ref_atom (n : Int) (s : ByteArray) (A : Option Addr) (m c : Nat) (w : World) :
    Calls Try.prog 11 #[.agg #[.int .i64 3, .int .i64 n, .string s, .slice A m c]] w fun e w' => e = evPair (.flt 2 s 0) ∧ Below w.heap.size w w' := by
  go_enter Try.func11, Try.ntmps11
  go_wp2_with fail
  go_region
  go_wp2_with fail
  refine bodyPost_ret (v := (.tuple #[.int .i64 0, .agg #[.int .i64 2, .string s, .int .i64 0]])) (by simp [results, go_sem]) rfl ?_
  exact ⟨rfl, (((Below.refl _ _).alloc (Nat.le_refl _) _).alloc (by simp) _).drew⟩
set_option maxRecDepth 100000 in
set_option maxHeartbeats 2000000 in
theorem ref_many (k n : Int) (s : ByteArray) (A : Option Addr) (m c : Nat) (w : World) (h1 : (k == 1) = false) (h2 : (k == 2) = false) (h3 : (k == 3) = false) (g1 : ((m : Int) == 1) = false) (g2 : ((m : Int) == 2) = false) :
    Calls Try.prog 11 #[.agg #[.int .i64 k, .int .i64 n, .string s, .slice A m c]] w fun e w' => e = evPair (.flt 2 s m) ∧ Below w.heap.size w w' := by
  go_enter Try.func11, Try.ntmps11
  go_wp2_with fail
  go_region
  go_wp2_with fail
  refine bodyPost_ret (v := (.tuple #[.int .i64 0, .agg #[.int .i64 2, .string s, .int .i64 m]])) (by simp [results, go_sem]) rfl ?_
  exact ⟨rfl, (((Below.refl _ _).alloc (Nat.le_refl _) _).alloc (by simp) _).drew⟩

set_option maxRecDepth 100000 in
set_option maxHeartbeats 2000000 in
theorem ref_one_no (k n : Int) (s : ByteArray) (A : Option Addr) (c : Nat) (w : World) (h1 : (k == 1) = false) (h2 : (k == 2) = false) (h3 : (k == 3) = false) (hs : isOne s.toList = false) :
    Calls Try.prog 11 #[.agg #[.int .i64 k, .int .i64 n, .string s, .slice A 1 c]] w fun e w' => e = evPair (.flt 2 s 1) ∧ Below w.heap.size w w' := by
  have hone := oneArg_any s
  rw [hs] at hone
  clear hs
  go_enter Try.func11, Try.ntmps11
  go_wp2_with fail
  refine (hone _).mono ?_
  rintro e w1 ⟨rfl, rfl⟩
  go_wp2_with fail
  go_region
  go_wp2_with fail
  refine bodyPost_ret (v := (.tuple #[.int .i64 0, .agg #[.int .i64 2, .string s, .int .i64 1]])) (by simp [results, go_sem]) rfl ?_
  exact ⟨rfl, (((Below.refl _ _).alloc (Nat.le_refl _) _).alloc (by simp) _).drew⟩
set_option maxRecDepth 100000 in
set_option maxHeartbeats 2000000 in
theorem ref_two_no (k n : Int) (s : ByteArray) (A : Option Addr) (c : Nat) (w : World) (h1 : (k == 1) = false) (h2 : (k == 2) = false) (h3 : (k == 3) = false) (hs : isTwo s.toList = false) :
    Calls Try.prog 11 #[.agg #[.int .i64 k, .int .i64 n, .string s, .slice A 2 c]] w fun e w' => e = evPair (.flt 2 s 2) ∧ Below w.heap.size w w' := by
  have hone := twoArgs_any s
  rw [hs] at hone
  clear hs
  go_enter Try.func11, Try.ntmps11
  go_wp2_with fail
  refine (hone _).mono ?_
  rintro e w1 ⟨rfl, rfl⟩
  go_wp2_with fail
  go_region
  go_wp2_with fail
  refine bodyPost_ret (v := (.tuple #[.int .i64 0, .agg #[.int .i64 2, .string s, .int .i64 2]])) (by simp [results, go_sem]) rfl ?_
  exact ⟨rfl, (((Below.refl _ _).alloc (Nat.le_refl _) _).alloc (by simp) _).drew⟩

/-- The contract of 'single' and 'double' (their own text proves it). -/
def Single : Prop := ∀ (s : ByteArray) (x : Int) (w : World), InR x → isOne s.toList = true →
  Calls Try.prog 20 #[.string s, .int .i64 x] w fun r w' => r = .returned (.tuple #[.int .i64 (num1 s.toList x).1, .int .i64 (num1 s.toList x).2]) ∧ Below w.heap.size w w'
def Double : Prop := ∀ (s : ByteArray) (x y : Int) (w : World), InR x → InR y → isTwo s.toList = true →
  Calls Try.prog 22 #[.string s, .int .i64 x, .int .i64 y] w fun r w' => r = .returned (.tuple #[.int .i64 (num2 s.toList x y).1, .int .i64 (num2 s.toList x y).2]) ∧ Below w.heap.size w w'

theorem fltV_agg (e : Int) (s : ByteArray) (n : Int) : ∃ fk fs fn, fltV e s n = .agg #[.int .i64 fk, .string fs, .int .i64 fn] := by
  unfold fltV
  split
  · exact ⟨_, _, _, rfl⟩
  split
  · exact ⟨_, _, _, rfl⟩
  split
  · exact ⟨_, _, _, rfl⟩
  · exact ⟨_, _, _, rfl⟩
/-- What a number and an error, told as a pair, come to. -/
theorem fltV_ev (p q : Int) (s : ByteArray) (m : Nat) (h : q = 0 ∨ (p = 0 ∧ (q = 1 ∨ q = 10 ∨ q = 11))) : Ending.returned (.tuple #[.int .i64 p, fltV q s m]) = evPair (ev p q s m) := by
  rcases h with rfl | ⟨rfl, rfl | rfl | rfl⟩ <;> rfl
theorem fit_ok (x : Int) : fitE x = 0 ∨ (fitV x = 0 ∧ (fitE x = 1 ∨ fitE x = 10 ∨ fitE x = 11)) := by
  rcases fit_cases x with ⟨_, _, _, h⟩ | ⟨_, h, h2⟩
  · exact .inl h
  · exact .inr ⟨h, .inr (.inl h2)⟩
def Good2 (x : Int × Int) : Prop := x.2 = 0 ∨ (x.1 = 0 ∧ (x.2 = 1 ∨ x.2 = 10 ∨ x.2 = 11))
theorem ite_good {c : Prop} [Decidable c] {a b : Int × Int} (ha : Good2 a) (hb : Good2 b) : Good2 (if c then a else b) := by
  by_cases h : c
  · rw [if_pos h]; exact ha
  · rw [if_neg h]; exact hb
theorem good_zero (x : Int) : Good2 (x, 0) := .inl rfl
theorem good_01 : Good2 (0, 1) := .inr ⟨rfl, .inl rfl⟩
theorem good_011 : Good2 (0, 11) := .inr ⟨rfl, .inr (.inr rfl)⟩
theorem good_fit (x : Int) : Good2 (fitV x, fitE x) := fit_ok x
theorem num2_good (l : List UInt8) (x y : Int) : Good2 (num2 l x y) := by
  unfold num2
  repeat' first | exact good_fit _ | exact good_zero _ | exact good_01 | exact good_011 | refine ite_good ?_ ?_
theorem num1_good (l : List UInt8) (x : Int) : Good2 (num1 l x) := by
  unfold num1
  repeat' first | exact good_fit _ | exact good_zero _ | exact good_01 | exact good_011 | refine ite_good ?_ ?_

theorem heap_mid (w : World) (o1 o2 : Obj) : ((w.alloc o1).alloc o2).heap[w.heap.size + 1]? = some o2 := by
  have e : w.heap.size + 1 = (w.alloc o1).heap.size := by simp
  rw [e]; exact heap_alloc_new _ _
theorem heap_mid0 (w : World) (o1 o2 : Obj) : ((w.alloc o1).alloc o2).heap[w.heap.size]? = some o1 := by
  rw [((Below.refl (w.alloc o1).heap.size _).alloc (Nat.le_refl _) o2).block _ (by simp)]; exact heap_alloc_new _ _
set_option maxRecDepth 100000 in
set_option maxHeartbeats 2000000 in
theorem ref_one (k n : Int) (s : ByteArray) (a : Nat → T) (A : Option Addr) (c : Nat) (w : World) (hT : TAt w w.heap.size k n s 1 a A c) (r0 : Ev) (h0 : RefR (a 0) r0) (b0 : ∀ x, r0 = .val x → InR x) (k0 : ∀ fk fs fn, r0 = .flt fk fs fn → ¬ fk = 0)
    (h1 : (k == 1) = false) (h2 : (k == 2) = false) (h3 : (k == 3) = false) (hs : isOne s.toList = true) (hsg : Single) :
    Calls Try.prog 11 #[.agg #[.int .i64 k, .int .i64 n, .string s, .slice A 1 c]] w fun e w' => e = evPair (ev1 s r0) ∧ Below w.heap.size w w' := by
  obtain ⟨b, off, rfl, hb, hc⟩ := hT.cells (by omega)
  obtain ⟨v0, v1, v2, v3, c0, c1, c2, c3, ht0⟩ := hc 0 (by omega)
  have hone := oneArg_any s
  rw [hs] at hone
  have hb1 := ((Below.refl w.heap.size w).alloc (Nat.le_refl _) (Obj.cells #[.int .i64 k, .int .i64 n, .string s, .slice (some ⟨b, off, none⟩) 1 c] 29)).alloc (by simp) (Obj.cells #[.int .i64 0, .string ⟨#[]⟩, .int .i64 0] 31)
  have HT0 := Lib.hid ht0
  have HB1 := Lib.hid hb1
  have d0 := (hb1.cell (p := ⟨b, off, none⟩) hb).trans c0
  have d1 := (hb1.cell (p := ⟨b, off + 1, none⟩) hb).trans c1
  have d2 := (hb1.cell (p := ⟨b, off + 2, none⟩) hb).trans c2
  have d3 := (hb1.cell (p := ⟨b, off + 3, none⟩) hb).trans c3
  clear hc hT c0 c1 c2 c3 ht0 hb hb1
  rcases r0 with x | ⟨fk, fs, fn⟩
  · have hx := b0 x rfl
    obtain ⟨p, q, hpq⟩ : ∃ p q, num1 s.toList x = (p, q) := ⟨_, _, rfl⟩
    have hsx := fun w => hsg s x w hx hs
    simp only [hpq] at hsx
    obtain ⟨fk, fs, fn, hfl⟩ := fltV_agg q s 1
    have hfa := fun w => fault_any q s 1 w
    simp only [hfl] at hfa
    have hev : evPair (ev1 s (.val x)) = .returned (.tuple #[.int .i64 p, .agg #[.int .i64 fk, .string fs, .int .i64 fn]]) := by
      unfold ev1
      dsimp only
      rw [hpq]
      dsimp only
      have hg := num1_good s.toList x
      rw [hpq] at hg
      rw [← fltV_ev p q s 1 hg, ← hfl]
      rfl
    rw [hev]
    clear hev hfl hpq hsg k0 b0
    go_enter Try.func11, Try.ntmps11
    go_wp2_with fail
    refine (hone _).mono ?_
    rintro e w1 ⟨rfl, rfl⟩
    go_wp2_with fail
    refine (h0 _ _ ((HT0.out.below HB1.out).more (by simp; omega))).mono ?_
    clear d0 d1 d2 d3 h0 hone hs
    rintro e w3 ⟨rfl, h3⟩
    have H3 := Lib.hid (HB1.out.trans (h3.mono (by simp; omega)))
    have X2 := Lib.hid ((h3.block (w.heap.size + 1) (by simp)).trans (heap_mid w _ _))
    have X1 := Lib.hid ((h3.block w.heap.size (by simp; omega)).trans (heap_mid0 w _ _))
    have H3S := Lib.hid h3.size
    clear h3
    obtain ⟨x0, x1, x2, x3⟩ := box4 X1.out
    obtain ⟨q0, q1, q2⟩ := box3 X2.out
    have hz := Nat.lt_of_lt_of_le (show w.heap.size + 1 < _ by simp) H3S.out
    have W1 := (Below.heap_alloc w3 (Obj.cells #[.int .i64 0, .string noName, .int .i64 0] 31) w.heap.size (by omega)).trans X1.out
    have W2 := (Below.heap_alloc w3 (Obj.cells #[.int .i64 0, .string noName, .int .i64 0] 31) (w.heap.size + 1) hz).trans X2.out
    obtain ⟨y0, y1, y2, y3⟩ := box4 W1
    have Y1 := Lib.hid W1
    have Y2 := Lib.hid W2
    have HZ := Lib.hid hz
    have HW := Lib.hid (H3.out.alloc H3.out.size (Obj.cells #[.int .i64 0, .string noName, .int .i64 0] 31))
    clear W1 W2 hz
    simp only [evPair]
    go_wp2_with fail
    refine (hsx _).mono ?_
    rintro e w5 ⟨rfl, h5⟩
    have H5 := Lib.hid (HW.out.trans (h5.mono HW.out.size))
    have V1 := Lib.hid ((h5.block w.heap.size (by have := HZ.out; simp; omega)).trans Y1.out)
    have V2 := Lib.hid ((h5.block (w.heap.size + 1) (by have := HZ.out; simp; omega)).trans Y2.out)
    clear h5 x0 x1 x2 x3 y0 y1 y2 y3 q0 q1 q2
    obtain ⟨x0, x1, x2, x3⟩ := box4 V1.out
    go_wp2_with fail
    refine (hfa _).mono ?_
    rintro e w6 ⟨rfl, h6⟩
    clear x0 x1 x2 x3
    have H6 := Lib.hid (H5.out.trans (h6.mono H5.out.size))
    have l5 := Lib.hid (World.lt_of_heap V2.out)
    have U2 := Lib.hid ((h6.block (w.heap.size + 1) l5.out).trans V2.out)
    clear h6
    obtain ⟨q0, q1, q2⟩ := box3 U2.out
    have f0 : w6.frozen? ⟨w.heap.size + 1, 0, none⟩ = false := by simp [World.frozen?, U2.out]
    have f1 : w6.frozen? ⟨w.heap.size + 1, 1, none⟩ = false := by simp [World.frozen?, U2.out]
    have f2 : w6.frozen? ⟨w.heap.size + 1, 2, none⟩ = false := by simp [World.frozen?, U2.out]
    go_wp2_with fail
    have HE := Lib.hid (((H6.out.setCell (p := ⟨w.heap.size + 1, 0, none⟩) (by simp) (.int .i64 fk)).setCell (p := ⟨w.heap.size + 1, 1, none⟩) (by simp) (.string fs)).setCell (p := ⟨w.heap.size + 1, 2, none⟩) (by simp) (.int .i64 fn))
    have Z := Blk.set_ (Blk.set_ (Blk.set_ U2.out 0 (.int .i64 fk)) 1 (.string fs)) 2 (.int .i64 fn)
    clear q0 q1 q2 f0 f1 f2
    obtain ⟨q0, q1, q2⟩ := box3 Z
    refine bodyPost_ret (v := (.tuple #[.int .i64 p, .agg #[.int .i64 fk, .string fs, .int .i64 fn]])) (by simp [results, go_sem, q0, q1, q2]) rfl ?_
    exact ⟨rfl, HE.out⟩
  · have hk := k0 fk fs fn rfl
    clear k0 b0
    show Calls _ _ _ _ fun e w' => e = evPair (.flt fk fs fn) ∧ _
    go_enter Try.func11, Try.ntmps11
    go_wp2_with fail
    refine (hone _).mono ?_
    rintro e w1 ⟨rfl, rfl⟩
    go_wp2_with fail
    refine (h0 _ _ ((HT0.out.below HB1.out).more (by simp; omega))).mono ?_
    clear d0 d1 d2 d3 h0 hone hs
    rintro e w3 ⟨rfl, h3⟩
    have H3 := Lib.hid (HB1.out.trans (h3.mono (by simp; omega)))
    have X2 := Lib.hid ((h3.block (w.heap.size + 1) (by simp)).trans (heap_mid w _ _))
    have X1 := Lib.hid ((h3.block w.heap.size (by simp; omega)).trans (heap_mid0 w _ _))
    have H3S := Lib.hid h3.size
    clear h3
    obtain ⟨x0, x1, x2, x3⟩ := box4 X1.out
    obtain ⟨q0, q1, q2⟩ := box3 X2.out
    have f0 : w3.frozen? ⟨w.heap.size + 1, 0, none⟩ = false := by simp [World.frozen?, X2.out]
    have f1 : w3.frozen? ⟨w.heap.size + 1, 1, none⟩ = false := by simp [World.frozen?, X2.out]
    have f2 : w3.frozen? ⟨w.heap.size + 1, 2, none⟩ = false := by simp [World.frozen?, X2.out]
    simp only [evPair]
    go_wp2_with fail
    have hz := Nat.lt_of_lt_of_le (show w.heap.size + 1 < _ by simp) H3S.out
    have Y2 := (((Below.refl w3.heap.size w3).alloc (Nat.le_refl _) (Obj.cells #[.int .i64 fk, .string fs, .int .i64 fn] 31)).block (w.heap.size + 1) (by omega)).trans X2.out
    have Y3 := heap_alloc_new w3 (Obj.cells #[.int .i64 fk, .string fs, .int .i64 fn] 31)
    clear x0 x1 x2 x3
    obtain ⟨y0, y1, y2⟩ := box3 Y2
    obtain ⟨z0, z1, z2⟩ := box3 Y3
    have g0 : (w3.alloc (Obj.cells #[.int .i64 fk, .string fs, .int .i64 fn] 31)).frozen? ⟨w.heap.size + 1, 0, none⟩ = false := by simp [World.frozen?, Y2]
    have g1 : (w3.alloc (Obj.cells #[.int .i64 fk, .string fs, .int .i64 fn] 31)).frozen? ⟨w.heap.size + 1, 1, none⟩ = false := by simp [World.frozen?, Y2]
    have g2 : (w3.alloc (Obj.cells #[.int .i64 fk, .string fs, .int .i64 fn] 31)).frozen? ⟨w.heap.size + 1, 2, none⟩ = false := by simp [World.frozen?, Y2]
    have HE := Lib.hid (((((H3.out.setCell (p := ⟨w.heap.size + 1, 0, none⟩) (by simp) (.int .i64 fk)).setCell (p := ⟨w.heap.size + 1, 1, none⟩) (by simp) (.string fs)).setCell (p := ⟨w.heap.size + 1, 2, none⟩) (by simp) (.int .i64 fn)).alloc (by simp; exact H3.out.size) (Obj.cells #[.int .i64 fk, .string fs, .int .i64 fn] 31)).drew)
    have Z := (Below.heap_alloc _ (Obj.cells #[.int .i64 fk, .string fs, .int .i64 fn] 31) _ (by simp; omega)).trans (Blk.set_ (Blk.set_ (Blk.set_ X2.out 0 (.int .i64 fk)) 1 (.string fs)) 2 (.int .i64 fn))
    have ZZ := Lib.hid Z
    clear Z
    clear Y2 Y3
    go_region
    go_wp2_with fail
    clear q0 q1 q2 f0 f1 f2 y0 y1 y2 g0 g1 g2 z0 z1 z2
    obtain ⟨q0, q1, q2⟩ := box3 ZZ.out
    refine bodyPost_ret (v := (.tuple #[.int .i64 0, .agg #[.int .i64 fk, .string fs, .int .i64 fn]])) (by simp [results, go_sem, q0, q1, q2]) rfl ?_
    exact ⟨rfl, HE.out⟩
end Go.Proofs.Ytifjdfdjojkagaa
