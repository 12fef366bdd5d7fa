/- The walks through eval.one, eval.two, eval.value. -/
import Derived.Test.YtifjdfdjojkagaaEval2
namespace Go.Proofs.Ytifjdfdjojkagaa
open Go.RowKit

def InR (x : Int) : Prop := -9223372036854775808 ≤ x ∧ x ≤ 9223372036854775807
/-- The numbers of a term are of 64 bits. -/
def T.inR : T → Prop
  | .nil => True
  | .mk _ n _ m a => InR n ∧ ∀ i, i < m → (a i).inR

/-- The contract of eval.value at a term. -/
def ValC (t : T) : Prop := ∀ (v : Value) (w : World), TIn w w.heap.size t v → Calls Try.prog 17 #[v] w fun e w' => e = evEnd (evT t) ∧ Below w.heap.size w w'

def Enters (F : Nat) : Prop := ∀ (args : Array Value) (W : World), Sem.run Try.prog (callFunc F args) W = .ok (.enter F args) W
theorem fn_cases (l : List UInt8) : (fnV l = .nilFunc ∧ isTwo l = false) ∨ ∃ F : Nat, fnV l = .func (.func F) #[] #[] ∧ isTwo l = true ∧ Op2 F l ∧ Enters F := by
  by_cases h0 : l = [43]
  · subst h0; exact .inr ⟨_, rfl, rfl, op2_Add, fun _ _ => by kernel_rfl⟩
  have g0 : (l == [43]) = false := by simpa using h0
  by_cases h1 : l = [45]
  · subst h1; exact .inr ⟨_, rfl, rfl, op2_Sub, fun _ _ => by kernel_rfl⟩
  have g1 : (l == [45]) = false := by simpa using h1
  by_cases h2 : l = [42]
  · subst h2; exact .inr ⟨_, rfl, rfl, op2_Mul, fun _ _ => by kernel_rfl⟩
  have g2 : (l == [42]) = false := by simpa using h2
  by_cases h3 : l = [47, 47]
  · subst h3; exact .inr ⟨_, rfl, rfl, op2_Quo, fun _ _ => by kernel_rfl⟩
  have g3 : (l == [47, 47]) = false := by simpa using h3
  by_cases h4 : l = [114, 101, 109]
  · subst h4; exact .inr ⟨_, rfl, rfl, op2_Rem, fun _ _ => by kernel_rfl⟩
  have g4 : (l == [114, 101, 109]) = false := by simpa using h4
  by_cases h5 : l = [100, 105, 118]
  · subst h5; exact .inr ⟨_, rfl, rfl, op2_Div, fun _ _ => by kernel_rfl⟩
  have g5 : (l == [100, 105, 118]) = false := by simpa using h5
  by_cases h6 : l = [109, 111, 100]
  · subst h6; exact .inr ⟨_, rfl, rfl, op2_Mod, fun _ _ => by kernel_rfl⟩
  have g6 : (l == [109, 111, 100]) = false := by simpa using h6
  by_cases h7 : l = [94]
  · subst h7; exact .inr ⟨_, rfl, rfl, op2_Pow, fun _ _ => by kernel_rfl⟩
  have g7 : (l == [94]) = false := by simpa using h7
  by_cases h8 : l = [103, 99, 100]
  · subst h8; exact .inr ⟨_, rfl, rfl, op2_Gcd, fun _ _ => by kernel_rfl⟩
  have g8 : (l == [103, 99, 100]) = false := by simpa using h8
  by_cases h9 : l = [60, 60]
  · subst h9; exact .inr ⟨_, rfl, rfl, op2_Shl, fun _ _ => by kernel_rfl⟩
  have g9 : (l == [60, 60]) = false := by simpa using h9
  by_cases h10 : l = [62, 62]
  · subst h10; exact .inr ⟨_, rfl, rfl, op2_Shr, fun _ _ => by kernel_rfl⟩
  have g10 : (l == [62, 62]) = false := by simpa using h10
  by_cases h11 : l = [109, 105, 110]
  · subst h11; exact .inr ⟨_, rfl, rfl, op2_by_1, fun _ _ => by kernel_rfl⟩
  have g11 : (l == [109, 105, 110]) = false := by simpa using h11
  by_cases h12 : l = [109, 97, 120]
  · subst h12; exact .inr ⟨_, rfl, rfl, op2_by_2, fun _ _ => by kernel_rfl⟩
  have g12 : (l == [109, 97, 120]) = false := by simpa using h12
  refine .inl ⟨?_, ?_⟩
  · unfold fnV; rw [g0, g1, g2, g3, g4, g5, g6, g7, g8, g9, g10, g11, g12]; rfl
  · unfold isTwo; rw [g0, g1, g2, g3, g4, g5, g6, g7, g8, g9, g10, g11, g12]; rfl

def ValR (t : T) (r : Ev) : Prop := ∀ (v : Value) (w : World), TIn w w.heap.size t v → Calls Try.prog 17 #[v] w fun e w' => e = evEnd r ∧ Below w.heap.size w w'
theorem ValC.at_ {t : T} {r : Ev} (h : ValC t) (e : evT t = r) : ValR t r := by subst e; exact h

set_option maxHeartbeats 1000000 in
theorem unknown_any (k n : Int) (s : ByteArray) (A : Option Addr) (m c : Nat) (w : World) :
    Calls Try.prog 27 #[.agg #[.int .i64 k, .int .i64 n, .string s, .slice A m c]] w fun r w' => r = evEnd (.flt 2 s m) ∧ Below w.heap.size w w' := by
  go_enter Try.func27, Try.ntmps27
  go_wp2_with fail
  refine (must_any k n s A m c 0 1 _).mono ?_
  rintro e w1 ⟨rfl, h⟩
  have hev : ev 0 1 s m = .flt 2 s m := rfl
  rw [hev]
  have H := Lib.hid (((Below.refl _ _).alloc (Nat.le_refl _) (Obj.cells #[.int .i64 k, .int .i64 n, .string s, .slice A m c] 29)).trans (h.mono (by simp)))
  clear h hev
  unfold evEnd
  go_wp2
  exact ⟨rfl, rfl, H.out⟩

theorem nil_nil (W : World) : Sem.run Try.prog (binOp BinOp.eql 55 .nilFunc .nilFunc) W = .ok (.bool true) W := by kernel_rfl
theorem func_nil (F : Nat) (W : World) : Sem.run Try.prog (binOp BinOp.eql 55 (.func (.func F) #[] #[]) .nilFunc) W = .ok (.bool false) W := by kernel_rfl

set_option maxRecDepth 100000 in
set_option maxHeartbeats 2000000 in
theorem two_core (k n : Int) (s : ByteArray) (a : Nat → T) (A : Option Addr) (c : Nat) (w : World) (hT : TAt w w.heap.size k n s 2 a A c) (h0 : ValC (a 0)) (h1 : ValC (a 1)) (r0 r1 : Ev) (e0 : evT (a 0) = r0) (e1 : evT (a 1) = r1) (b0 : ∀ x, r0 = .val x → InR x) (b1 : ∀ x, r1 = .val x → InR x) :
    Calls Try.prog 26 #[.agg #[.int .i64 k, .int .i64 n, .string s, .slice A 2 c]] w fun e w' => e = evEnd (if isTwo s.toList then ev2 s r0 r1 else .flt 2 s 2) ∧ Below w.heap.size w w' := by
  have h0 := h0.at_ e0
  have h1 := h1.at_ e1
  clear e0 e1
  obtain ⟨b, off, rfl, hb, hc⟩ := hT.cells (by omega)
  obtain ⟨v0, v1, v2, v3, c0, c1, c2, c3, ht0⟩ := hc 0 (by omega)
  obtain ⟨u0, u1, u2, u3, d0, d1, d2, d3, ht1⟩ := hc 1 (by omega)
  have HC0 := Lib.hid (show ∀ w1 : World, Below w.heap.size w w1 → w1.cell? ⟨b, off, none⟩ = some v0 ∧ w1.cell? ⟨b, off + 1, none⟩ = some v1 ∧ w1.cell? ⟨b, off + 2, none⟩ = some v2 ∧ w1.cell? ⟨b, off + 3, none⟩ = some v3 from
    fun w1 h => ⟨(h.cell hb).trans c0, (h.cell hb).trans c1, (h.cell hb).trans c2, (h.cell hb).trans c3⟩)
  have HC1 := Lib.hid (show ∀ w1 : World, Below w.heap.size w w1 → w1.cell? ⟨b, off + 4, none⟩ = some u0 ∧ w1.cell? ⟨b, off + 4 + 1, none⟩ = some u1 ∧ w1.cell? ⟨b, off + 4 + 2, none⟩ = some u2 ∧ w1.cell? ⟨b, off + 4 + 3, none⟩ = some u3 from
    fun w1 h => ⟨(h.cell hb).trans d0, (h.cell hb).trans d1, (h.cell hb).trans d2, (h.cell hb).trans d3⟩)
  have HT0 := Lib.hid ht0
  have HT1 := Lib.hid ht1
  have HB := Lib.hid hb
  clear hc hT c0 c1 c2 c3 d0 d1 d2 d3 ht0 ht1 hb
  rcases fn_cases s.toList with ⟨hF, h2⟩ | ⟨F, hF, h2, hop, hent⟩
  · have hby := by_any s
    rw [hF] at hby
    rw [h2]
    have hnn := nil_nil
    go_enter Try.func26, Try.ntmps26
    go_wp2_with fail
    refine (hby _).mono ?_
    rintro e w1 ⟨rfl, rfl⟩
    clear hF hby h2
    go_wp2_with fail
    refine (unknown_any k n s _ 2 c _).mono ?_
    rintro e w1 ⟨rfl, h⟩
    have H := Lib.hid (((Below.refl _ _).alloc (Nat.le_refl _) (Obj.cells #[.int .i64 k, .int .i64 n, .string s, .slice (some ⟨b, off, none⟩) 2 c] 29)).trans (h.mono (by simp)))
    clear h
    unfold evEnd
    go_wp2
    exact ⟨rfl, rfl, H.out⟩
  · have hby := by_any s
    rw [hF] at hby
    rcases r0 with x | ⟨fk, fs, fn⟩
    · obtain ⟨hx, hx'⟩ := b0 x rfl
      clear b0
      rcases r1 with y | ⟨fk, fs, fn⟩
      · obtain ⟨hy, hy'⟩ := b1 y rfl
        clear b1
        obtain ⟨p, q, hpq⟩ : ∃ p q, num2 s.toList x y = (p, q) := ⟨_, _, rfl⟩
        obtain ⟨r, hr⟩ : ∃ r, ev p q s 2 = r := ⟨_, rfl⟩
        have hop' := fun w => hop x y w hx hx' hy hy'
        have hm := fun w => must_any k n s (some ⟨b, off, none⟩) 2 c p q w
        simp only [hr] at hm
        simp only [hpq] at hop'
        rw [h2, if_pos rfl, show ev2 s (.val x) (.val y) = r by unfold ev2; dsimp only; rw [hpq]; exact hr]
        clear hr hpq hop
        have hent2 := hent #[.int .i64 x, .int .i64 y]
        rcases r with z | ⟨fk, fs, fn⟩
        all_goals
          have hfn := func_nil F
          go_enter Try.func26, Try.ntmps26
          go_wp2_with fail
          refine (hby _).mono ?_
          rintro e w1 ⟨rfl, rfl⟩
          clear hF hby h2
          have hb1 := (Below.refl w.heap.size w).alloc (Nat.le_refl _) (Obj.cells #[.int .i64 k, .int .i64 n, .string s, .slice (some ⟨b, off, none⟩) 2 c] 29)
          obtain ⟨c0, c1, c2, c3⟩ := HC0.out _ hb1
          have HB1 := Lib.hid hb1
          clear hb1
          go_wp2_with fail
          clear c0 c1 c2 c3
          refine (h0 _ _ ((HT0.out.below HB1.out).more (by simp))).mono ?_
          rintro e w3 ⟨rfl, h3⟩
          have H3 := Lib.hid (HB1.out.trans (h3.mono (by simp)))
          have X3 := Lib.hid ((h3.block w.heap.size (by simp)).trans (heap_alloc_new w _))
          have l3 := Lib.hid (Nat.lt_of_lt_of_le (show w.heap.size < _ by simp) h3.size)
          clear h3
          simp only [evEnd]
          obtain ⟨d0, d1, d2, d3⟩ := HC1.out _ H3.out
          obtain ⟨x0, x1, x2, x3⟩ := box4 X3.out
          go_wp2_with fail
          clear d0 d1 d2 d3 x0 x1 x2 x3
          refine (h1 _ _ ((HT1.out.below H3.out).more H3.out.size)).mono ?_
          rintro e w4 ⟨rfl, h4⟩
          have s4 := Lib.hid h4.size
          have H4 := Lib.hid (H3.out.trans (h4.mono H3.out.size))
          have X4 := Lib.hid ((h4.block w.heap.size l3.out).trans X3.out)
          clear h4
          simp only [evEnd]
          obtain ⟨x0, x1, x2, x3⟩ := box4 X4.out
          go_wp2_with fail
          refine (hop' _).mono ?_
          rintro e w5 ⟨rfl, h5⟩
          clear x0 x1 x2 x3
          have l4 := Lib.hid (Nat.lt_of_lt_of_le (show w.heap.size < _ from l3.out) s4.out)
          have H5 := Lib.hid (H4.out.trans (h5.mono H4.out.size))
          have X5 := Lib.hid ((h5.block w.heap.size l4.out).trans X4.out)
          clear h5
          obtain ⟨x0, x1, x2, x3⟩ := box4 X5.out
          go_wp2_with fail
          refine (hm _).mono ?_
          rintro e w6 ⟨rfl, h6⟩
          have H6 := Lib.hid (H5.out.trans (h6.mono H5.out.size))
          clear h6 x0 x1 x2 x3
          simp only [evEnd]
          go_wp2
          first | exact ⟨rfl, rfl, H6.out⟩ | (go_ret; exact ⟨rfl, H6.out⟩)
      · clear b1
        rw [h2]
        have hfn := func_nil F
        go_enter Try.func26, Try.ntmps26
        go_wp2_with fail
        refine (hby _).mono ?_
        rintro e w1 ⟨rfl, rfl⟩
        clear hF hby h2
        have hb1 := (Below.refl w.heap.size w).alloc (Nat.le_refl _) (Obj.cells #[.int .i64 k, .int .i64 n, .string s, .slice (some ⟨b, off, none⟩) 2 c] 29)
        obtain ⟨c0, c1, c2, c3⟩ := HC0.out _ hb1
        have HB1 := Lib.hid hb1
        clear hb1
        go_wp2_with fail
        clear c0 c1 c2 c3
        refine (h0 _ _ ((HT0.out.below HB1.out).more (by simp))).mono ?_
        rintro e w3 ⟨rfl, h3⟩
        have H3 := Lib.hid (HB1.out.trans (h3.mono (by simp)))
        have X3 := Lib.hid ((h3.block w.heap.size (by simp)).trans (heap_alloc_new w _))
        have l3 := Lib.hid (Nat.lt_of_lt_of_le (show w.heap.size < _ by simp) h3.size)
        clear h3
        simp only [evEnd]
        obtain ⟨d0, d1, d2, d3⟩ := HC1.out _ H3.out
        obtain ⟨x0, x1, x2, x3⟩ := box4 X3.out
        go_wp2_with fail
        clear d0 d1 d2 d3 x0 x1 x2 x3
        refine (h1 _ _ ((HT1.out.below H3.out).more H3.out.size)).mono ?_
        rintro e w4 ⟨rfl, h4⟩
        have H4 := Lib.hid (H3.out.trans (h4.mono H3.out.size))
        have X4 := Lib.hid ((h4.block w.heap.size l3.out).trans X3.out)
        clear h4
        simp only [evEnd]
        go_wp2
        exact ⟨rfl, rfl, H4.out⟩
    · clear b0 b1
      rw [h2]
      have hfn := func_nil F
      go_enter Try.func26, Try.ntmps26
      go_wp2_with fail
      refine (hby _).mono ?_
      rintro e w1 ⟨rfl, rfl⟩
      clear hF hby h2
      have hb1 := (Below.refl w.heap.size w).alloc (Nat.le_refl _) (Obj.cells #[.int .i64 k, .int .i64 n, .string s, .slice (some ⟨b, off, none⟩) 2 c] 29)
      obtain ⟨c0, c1, c2, c3⟩ := HC0.out _ hb1
      have HB1 := Lib.hid hb1
      clear hb1
      go_wp2_with fail
      clear c0 c1 c2 c3
      refine (h0 _ _ ((HT0.out.below HB1.out).more (by simp))).mono ?_
      rintro e w3 ⟨rfl, h3⟩
      have H3 := Lib.hid (HB1.out.trans (h3.mono (by simp)))
      have X3 := Lib.hid ((h3.block w.heap.size (by simp)).trans (heap_alloc_new w _))
      have l3 := Lib.hid (Nat.lt_of_lt_of_le (show w.heap.size < _ by simp) h3.size)
      clear h3
      simp only [evEnd]
      go_wp2
      exact ⟨rfl, rfl, H3.out⟩

def A1 (l : List UInt8) : Prop := l = [43] ∨ l = [45] ∨ l = [97, 98, 115] ∨ l = [115, 105, 103, 110]
theorem isOne_no {l : List UInt8} (h : isOne l = false) : (l == [43]) = false ∧ (l == [45]) = false ∧ (l == [97, 98, 115]) = false ∧ (l == [115, 105, 103, 110]) = false := by
  unfold isOne at h
  simpa [and_assoc] using h
theorem isOne_yes {l : List UInt8} (h : isOne l = true) : A1 l := by
  unfold isOne at h
  simpa [A1, or_assoc] using h

set_option maxRecDepth 100000 in
set_option maxHeartbeats 2000000 in
theorem one_no (k n : Int) (s : ByteArray) (A : Option Addr) (c : Nat) (w : World) (hs : isOne s.toList = false) :
    Calls Try.prog 25 #[.agg #[.int .i64 k, .int .i64 n, .string s, .slice A 1 c]] w fun e w' => e = evEnd (.flt 2 s 1) ∧ Below w.heap.size w w' := by
  obtain ⟨g1, g2, g3, g4⟩ := isOne_no hs
  clear hs
  go_enter Try.func25, Try.ntmps25
  go_wp2_with fail
  refine (unknown_any k n s _ 1 c _).mono ?_
  rintro e w1 ⟨rfl, h⟩
  have H := Lib.hid (((Below.refl _ _).alloc (Nat.le_refl _) (Obj.cells #[.int .i64 k, .int .i64 n, .string s, .slice A 1 c] 29)).trans (h.mono (by simp)))
  clear h
  unfold evEnd
  go_wp2
  exact ⟨rfl, rfl, H.out⟩

set_option maxRecDepth 100000 in
set_option maxHeartbeats 2000000 in
theorem one_plus (k n : Int) (s : ByteArray) (a : Nat → T) (A : Option Addr) (c : Nat) (w : World) (hT : TAt w w.heap.size k n s 1 a A c) (r0 : Ev) (h0 : ValR (a 0) r0) (hs : s.toList = [43]) :
    Calls Try.prog 25 #[.agg #[.int .i64 k, .int .i64 n, .string s, .slice A 1 c]] w fun e w' => e = evEnd r0 ∧ Below w.heap.size w w' := by
  obtain ⟨b, off, rfl, hb, hc⟩ := hT.cells (by omega)
  obtain ⟨v0, v1, v2, v3, c0, c1, c2, c3, ht0⟩ := hc 0 (by omega)
  have g1 : (s.toList == [43]) = true := by rw [hs]; rfl
  have hb1 := (Below.refl w.heap.size w).alloc (Nat.le_refl _) (Obj.cells #[.int .i64 k, .int .i64 n, .string s, .slice (some ⟨b, off, none⟩) 1 c] 29)
  have HT0 := Lib.hid ht0
  have HB1 := Lib.hid hb1
  have d0 := (hb1.cell (p := ⟨b, off, none⟩) hb).trans c0
  have d1 := (hb1.cell (p := ⟨b, off + 1, none⟩) hb).trans c1
  have d2 := (hb1.cell (p := ⟨b, off + 2, none⟩) hb).trans c2
  have d3 := (hb1.cell (p := ⟨b, off + 3, none⟩) hb).trans c3
  clear hc hT c0 c1 c2 c3 ht0 hb hb1 hs
  rcases r0 with x | ⟨fk, fs, fn⟩
  all_goals
    go_enter Try.func25, Try.ntmps25
    go_wp2_with fail
    clear d0 d1 d2 d3
    refine (h0 _ _ ((HT0.out.below HB1.out).more (by simp))).mono ?_
    rintro e w3 ⟨rfl, h3⟩
    have H3 := Lib.hid (HB1.out.trans (h3.mono (by simp)))
    clear h3
    simp only [evEnd]
    go_wp2
    first | exact ⟨rfl, rfl, H3.out⟩ | (go_ret; exact ⟨rfl, H3.out⟩)
end Go.Proofs.Ytifjdfdjojkagaa
