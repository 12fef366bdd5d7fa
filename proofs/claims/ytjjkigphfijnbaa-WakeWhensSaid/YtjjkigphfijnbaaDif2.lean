/- The walk through coneyref18.Dif. -/
import Derived.Test.YtjjkigphfijnbaaDif
namespace Go.Proofs.Ytjjkigphfijnbaa
open Go.RowKit

theorem varL_tp {w : World} {S : Nat → Prop} {t : T} {k n : Int} {s x : Value} (h : TP w S t (.agg #[.int .i64 k, .int .i64 n, s, x])) : varL t = if k = 1 then [n] else [] := by
  cases t with
  | nil => exact h.elim
  | mk ku nu su mu au =>
    obtain ⟨_, _, e, _⟩ := h
    injection e with e
    simp only [Array.mk.injEq, List.cons.injEq, and_true] at e
    obtain ⟨e1, e2, _⟩ := e
    injection e1 with _ e1
    injection e2 with _ e2
    subst e1; subst e2
    by_cases hk : k = 1 <;> simp [varL, T.var?, hk]
/-- The first binding, in memory. -/
theorem RB.first {w : World} {rb : Nat} {p : Int × T} {M : Bs} (h : RB w rb (p :: M)) : ∃ (b c : Nat) (k0 k1 : Int) (k2 : ByteArray) (A0 : Option Addr) (m0 c0 : Nat), w.cell? ⟨rb, 0, none⟩ = some (.slice (some ⟨b, 0, none⟩) (M.length + 1) c) ∧ rb < w.heap.size ∧ b < w.heap.size ∧
    w.cell? ⟨b, 0, none⟩ = some (.int .i64 p.1) ∧ w.cell? ⟨b, 1, none⟩ = some (.int .i64 k0) ∧ w.cell? ⟨b, 2, none⟩ = some (.int .i64 k1) ∧ TP w (fun _ => True) p.2 (.agg #[.int .i64 k0, .int .i64 k1, .string k2, .slice A0 m0 c0]) := by
  obtain ⟨⟨A, c, h1, h2⟩, _⟩ := h
  obtain ⟨b, k0, k1, k2, A0, m0, c0, rfl, hb, a0, a1, a2, _, _, ht⟩ := h2.get (i := 0) (p := p) rfl
  simp only [Nat.zero_mul, Nat.zero_add] at a0 a1 a2
  exact ⟨b, c, k0, k1, k2, A0, m0, c0, cell_of_row w rb 0 _ _ _ h1, heap_lt h1, hb, a0, a1, a2, ht⟩
set_option maxRecDepth 100000 in
set_option maxHeartbeats 8000000 in
theorem rdif_own {a b : T} {va vb : Value} {w : World} {S S' : Nat → Prop} (ha : TP w S a va) (hb : TP w S' b vb) (oa : a.ok) (ob : b.ok) {r : Res} (hr : uniF 2000 [] [(a, b)] = r) :
    Calls Try.prog 26 #[va, vb] w fun e w' => DifO r w e w' := by
  obtain ⟨k0, n0, s0, A0, m0, c0, rfl⟩ := ha.agg
  obtain ⟨k1, n1, s1, A1, m1, c1, rfl⟩ := hb.agg
  have HA := Lib.hid (ha.more (S' := fun _ => True) fun _ _ => trivial)
  have HB := Lib.hid (hb.more (S' := fun _ => True) fun _ _ => trivial)
  have HR := Lib.hid hr
  have hcase : (r = .unlike ∨ r = .many) ∨ (∃ f, r = .ok [] f) ∨ ∃ p M f, r = .ok (p :: M) f := by
    cases r with
    | unlike => exact .inl (.inl rfl)
    | many => exact .inl (.inr rfl)
    | ok L f => cases L with
      | nil => exact .inr (.inl ⟨f, rfl⟩)
      | cons p M => exact .inr (.inr ⟨p, M, f, rfl⟩)
  have BX := Lib.hid (belA (belA (belA (Below.refl w.heap.size w) (Obj.cells #[.int .i64 k0, .int .i64 n0, .string s0, .slice A0 m0 c0] 34)) (Obj.cells #[.int .i64 k1, .int .i64 n1, .string s1, .slice A1 m1 c1] 34)) (Obj.cells #[] 3))
  clear ha hb hr
  go_enter Try.func26, Try.ntmps26
  go_wp2_with fail
  refine (rnew_any _).mono ?_
  rintro e w2 ⟨⟨rb, rfl, hrb, he⟩, hb2⟩
  have HE := Lib.hid he
  have B2 := Lib.hid (BX.out.trans (hb2.mono BX.out.size))
  have X0 := Lib.hid ((hb2.block w.heap.size (by simp <;> omega)).trans ((Below.heap_alloc _ _ _ (by simp <;> omega)).trans ((Below.heap_alloc (w.alloc (Obj.cells #[.int .i64 k0, .int .i64 n0, .string s0, .slice A0 m0 c0] 34)) (Obj.cells #[.int .i64 k1, .int .i64 n1, .string s1, .slice A1 m1 c1] 34) w.heap.size (by simp)).trans (heap_alloc_new w _))))
  have Y0 := Lib.hid ((hb2.block (w.heap.size + 1) (by simp <;> omega)).trans ((Below.heap_alloc _ _ _ (by simp)).trans ((congrArg _ (by simp)).trans (heap_alloc_new (w.alloc (Obj.cells #[.int .i64 k0, .int .i64 n0, .string s0, .slice A0 m0 c0] 34)) (Obj.cells #[.int .i64 k1, .int .i64 n1, .string s1, .slice A1 m1 c1] 34)))))
  have Z0 := Lib.hid ((hb2.block (w.heap.size + 2) (by simp)).trans ((congrArg _ (by simp)).trans (heap_alloc_new _ (Obj.cells #[] 3))))
  have hmw : w.heap.size ≤ rb := Nat.le_trans BX.out.size hrb
  obtain ⟨x0, x1, x2, x3⟩ := box4 X0.out
  obtain ⟨y0, y1, y2, y3⟩ := box4 Y0.out
  clear he hb2 hrb
  have CU := Lib.hid (runify_u HE.out (HA.out.below B2.out) (HB.out.below B2.out) oa ob HR.out)
  go_wp2_with fail
  refine CU.out.mono ?_
  rintro e w3 ⟨⟨UA, uc, rfl, _, he3⟩, hb3⟩
  have B3 := Lib.hid (B2.out.trans (hb3.below hmw B2.out.size))
  have Z3 := Lib.hid (hb3.far HE.out.spare Z0.out (by decide))
  have OW := Lib.hid (show w3.ownsRow (w.heap.size + 2) 3 1 (.slice (some ⟨w.heap.size + 2, 0, none⟩) 0 0) 0 [] from ownsRow_empty _ _ 1 _ Z3.out)
  have RB3 := Lib.hid he3
  have hs3 := heap_lt Z3.out
  clear he3 hb3 x0 x1 x2 x3 y0 y1 y2 y3
  rcases hcase with (rfl | rfl) | ⟨f, rfl⟩ | ⟨p, M, f, rfl⟩
  · simp only [resErr]
    go_wp2_with fail
    go_ret2
    exact ⟨⟨_, 0, rfl, ownsRow_more OW.out (by omega)⟩, B3.out⟩
  · simp only [resErr]
    go_wp2_with fail
    go_ret2
    exact ⟨⟨_, 0, rfl, ownsRow_more OW.out (by omega)⟩, B3.out⟩
  · simp only [resErr]
    go_wp2_with fail
    go_ret2
    exact ⟨⟨_, 0, rfl, ownsRow_more OW.out (by omega)⟩, B3.out⟩
  · have RB4 : RB w3 rb (p :: M) := RB3.out
    have HRB := Lib.hid RB4
    obtain ⟨b, c, q0, q1, q2, QA, qm, qc, e0, hl1, hl2, a0, _, _, ht⟩ := RB4.first
    have hz : (((List.map Prod.fst (newB [] (.ok (p :: M) f))).length : Int) == 0) = false := by
      rw [beq_eq_false_iff_ne, show newB [] (.ok (p :: M) f) = p :: M from rfl]
      simp; omega
    have hM : (0 : Int) < ((M.length : Int) + 1) := by omega
    obtain ⟨item, ii1, ii2, ii3, ii4⟩ := elInt8.hi
    clear RB4 ht RB3
    simp only [resErr]
    go_wp2_with (at_builtin; go_must (refine wpList_append_lies _ rfl _ _ _ rfl (w.heap.size + 2) 3 item (.int .i64 0) 1 8 Try.underlying28 ii1 ii2 ii3 ii4 rfl (by omega) _ 0 _ rfl (own_below OW.out (belA (Below.refl _ _) _)) ⟨w3.heap.size, 0, none⟩ 1 1 [.int .i64 p.1] rfl rfl (World.news_of_block (heap_alloc_new _ _)) ?_ (by omega) (by unfold maxLen; omega) (by omega) (by simp; omega) _ rfl ?_))
    · intro u hu
      simp only [List.mem_cons, List.not_mem_nil, or_false] at hu
      rcases hu with rfl
      rfl
    intro g1 cap1 w4 hown1 hg1 hat1 _
    have RBA := RB.grown (own_below OW.out (belA (Below.refl _ _) (Obj.cells #[.int .i64 p.1] 3))) hg1 (by decide) (by decide) (by decide) (HRB.out.below (belA (Below.refl _ _) (Obj.cells #[.int .i64 p.1] 3)))
    have B4 := Lib.hid ((B3.out.trans ((belA (Below.refl _ _) (Obj.cells #[.int .i64 p.1] 3)).mono B3.out.size)).grown hg1 (by have := B3.out.size; simp; omega) fun k hk => by simp [Value.ownBlock] at hk; omega)
    have OW4 := Lib.hid hown1
    clear hown1 hg1 hat1 e0 a0 hl1 hl2
    have HRA := Lib.hid RBA
    obtain ⟨b, c, q0, q1, q2, QA, qm, qc, e0, hl1, hl2, a0, a1, a2, ht⟩ := RBA.first
    have VL := Lib.hid (varL_tp ht)
    have hl4 := OW4.out.lt g1 rfl
    clear RBA ht
    cases hk : (q0 == 1) with
    | false =>
      have E := Lib.hid (show difL (.ok (p :: M) f) = [p.1] by simp only [difL]; rw [VL.out, if_neg (by simpa using hk)])
      go_wp2_with fail
      go_ret2
      exact ⟨⟨some ⟨g1, 0, none⟩, cap1, by rw [E.out]; rfl, by rw [E.out]; exact ownsRow_more OW4.out (by omega)⟩, B4.out⟩
    | true =>
      have E := Lib.hid (show difL (.ok (p :: M) f) = [p.1, q1] by simp only [difL]; rw [VL.out, if_pos (by simpa using hk)])
      go_wp2_with (at_builtin; go_must (refine wpList_append_lies _ rfl _ _ _ rfl (w.heap.size + 2) 3 item (.int .i64 0) 1 8 Try.underlying28 ii1 ii2 ii3 ii4 rfl (by omega) _ 1 _ rfl (own_below OW4.out (belA (Below.refl _ _) _)) ⟨w4.heap.size, 0, none⟩ 1 1 [.int .i64 q1] rfl rfl (World.news_of_block (heap_alloc_new _ _)) ?_ (by omega) (by unfold maxLen; omega) (by omega) (by simp; omega) _ rfl ?_))
      · intro u hu
        simp only [List.mem_cons, List.not_mem_nil, or_false] at hu
        rcases hu with rfl
        rfl
      intro g2 cap2 w5 hown2 hg2 hat2 _
      have B5 := Lib.hid ((B4.out.trans ((belA (Below.refl _ _) (Obj.cells #[.int .i64 q1] 3)).mono B4.out.size)).grown hg2 (by have := B4.out.size; simp; omega) fun k hk => by simp [Value.ownBlock] at hk; omega)
      have OW5 := Lib.hid hown2
      clear hown2 hg2 hat2 e0 a0 a1 a2
      go_wp2_with fail
      go_ret2
      exact ⟨⟨some ⟨g2, 0, none⟩, cap2, by rw [E.out]; rfl, by rw [E.out]; exact ownsRow_more OW5.out (by omega)⟩, B5.out⟩
theorem rdif_any {a b : T} {va vb : Value} {w : World} {S S' : Nat → Prop} (ha : TP w S a va) (hb : TP w S' b vb) (oa : a.ok) (ob : b.ok) {r : Res} (hr : uniF 2000 [] [(a, b)] = r) :
    Calls Try.prog 26 #[va, vb] w fun e w' => DifP r w e w' := (rdif_own ha hb oa ob hr).mono fun _ _ ⟨⟨A, c, h1, h2⟩, h3⟩ => ⟨⟨A, c, h1, h2.irow⟩, h3⟩
end Go.Proofs.Ytjjkigphfijnbaa
